/-
  Tub Tuc Fti Tud Tue Tuf Soc Sod Tug Tuh Em Tui Ftj Tuj RowI RowU RowJ: put together.
-/
import Derived.Test.YtlnphjjhfgghkaaGreatDoorSDg
import Derived.Test.YtlnphjjhfgghkaaGreatDoorSDd
import Derived.Test.YtlnphjjhfgghkaaGreatDoorProg
import Derived.Test.YtlnphjjhfgghkaaGreatDoorSDc
import Derived.Test.YtlnphjjhfgghkaaGreatDoorSDe
import Derived.Test.YtlnphjjhfgghkaaGreatDoorSDf
import Derived.Test.YtlnphjjhfgghkaaGreatDoorRows
import Derived.Test.YtlnphjjhfgghkaaGreatDoorTie
import Derived.WalkKit
import Derived.ProofKit
import Derived.OpenShut
import Derived.ChangeOld
import Derived.ChangeSame
import Derived.ChangeVars
import Derived.JoinedOf
import Derived.RowKitTokens
import Derived.LaidLaws
import Derived.LaidHandle
import Derived.Below
set_option linter.unusedSimpArgs false
set_option linter.unusedVariables false
namespace Go.Proofs.YtlnphjjhfgghkaaGreatDoor
open Go Go.Lg Go.RowKit
set_option maxRecDepth 20000
theorem boV_any {f:FuncId} {args:List V} {b:Bool} (h:PRet Tryz.prog f args (.bool b)):PRetR Tryz.prog f args (boV True):=h.rel (boV_t b)
theorem name_any {s:ByteArray} (hs:s.size≤SB):PRetR Tryz.prog 50 [.str s] (boV True):=boV_any (name_ret s (sb_max hs))
theorem double_any {s:ByteArray} (hs:s.size≤SB):PRetR Tryz.prog 143 [.str s] (boV True):=boV_any (double_ret s (by rw [sb_eq] at hs;omega))
theorem place_rel (p:PL) (hp:p.sm):PRetR Tryz.prog 158 [.agg p.cells] (boV True):=by
  obtain ⟨h1,h2,h3⟩:=hp
  have hn:=name_any h1
  rw [sb_eq] at h2
  refine pretR_intro fdt158 (by simp) ?_
  simp only [lct158,VCA,simprocAttr,encL,MCA,PL.c0,PL.c1,PL.snapc,PL.sokc,PL.onec,PL.imvc]
  refine loop_vcg (ι:=Nat × (Nat→Nat)) (fun (i,c)=>stO [(1,.box p.cells),(6,.val (encL cS p.path)),(7,.val (.int .i64 p.path.length)),(8,.val (.int .i64 i))] c)
    (fun (i,_)=>i≤p.path.length) (fun (i,_)=>p.path.length - i) (0,_) (Nat.zero_le _) (ent_of _ [] rfl rfl (by simp only [VCA,simprocAttr,encL,ls_imv,PL.imvc])) ?_
  rintro ⟨i,c⟩ hi
  have hi:i≤p.path.length:=hi
  simp only [VCA,simprocAttr,encL,MCA,PL.c0,PL.c1,PL.snapc,PL.sokc,PL.onec,PL.imvc]
  refine condD_of (fun h=>?_) (fun h=>?_)
  case refine_2 =>
    simp only [VCA,simprocAttr,encL,MCA,PL.c0,PL.c1,PL.snapc,PL.sokc,PL.onec,PL.imvc]
    repeat' (first|exact boV_t _|((first|refine condDn_of (fun h=>?_) (fun h=>?_)|refine condD_of (fun h=>?_) (fun h=>?_)|refine condVn_of (fun h=>?_) (fun h=>?_)|refine condV_of (fun h=>?_) (fun h=>?_)|refine gdDn_of (fun h=>?_) (fun h=>?_)|refine gdD_of (fun h=>?_) (fun h=>?_)|refine gdVMn_of (fun h=>?_) (fun h=>?_)|refine gdVM_of (fun h=>?_) (fun h=>?_)|refine gpDn_of (fun h=>?_) (fun h=>?_)|refine gpD_of (fun h=>?_) (fun h=>?_)|refine gdVn_of (fun h=>?_) (fun h=>?_)|refine gdV_of (fun h=>?_) (fun h=>?_))<;>simp only [VCA,simprocAttr,encL,MCA,boV_t,h,PL.c0,PL.c1,PL.snapc,PL.sokc,PL.onec,PL.imvc])|(refine callRF_of (hn) (fun r hr=>?_) (by simp only [VCA,simprocAttr,encL,MCA,PL.c0,PL.c1,PL.snapc,PL.sokc,PL.onec,PL.imvc]) (fun _=>boV_flat);obtain ⟨b,rfl,-⟩:=hr;try simp only [VCA,simprocAttr,encL,MCA,boV_t,PL.c0,PL.c1,PL.snapc,PL.sokc,PL.onec,PL.imvc]))
  have hi':i<p.path.length:=by omega
  have ii:0≤(i:Int)∧(i:Int)<p.path.length:=by omega
  have i2:InI64 ((i:Int)+1):=by unfold InI64;omega
  have hm:=name_any (h3 _ (List.getElem_mem hi'))
  simp only [VCA,simprocAttr,encL,MCA,ii,st_ld hi']
  repeat' (first|exact boV_t _|((first|refine condDn_of (fun h=>?_) (fun h=>?_)|refine condD_of (fun h=>?_) (fun h=>?_)|refine condVn_of (fun h=>?_) (fun h=>?_)|refine condV_of (fun h=>?_) (fun h=>?_)|refine gdDn_of (fun h=>?_) (fun h=>?_)|refine gdD_of (fun h=>?_) (fun h=>?_)|refine gdVMn_of (fun h=>?_) (fun h=>?_)|refine gdVM_of (fun h=>?_) (fun h=>?_)|refine gpDn_of (fun h=>?_) (fun h=>?_)|refine gpD_of (fun h=>?_) (fun h=>?_)|refine gdVn_of (fun h=>?_) (fun h=>?_)|refine gdV_of (fun h=>?_) (fun h=>?_))<;>simp only [VCA,simprocAttr,encL,MCA,boV_t,h,i2])|(refine callRF_of (hm) (fun r hr=>?_) (by simp only [VCA,simprocAttr,encL,MCA,i2]) (fun _=>boV_flat);obtain ⟨b,rfl,-⟩:=hr;try simp only [VCA,simprocAttr,encL,MCA,boV_t,i2]))
  all_goals exact backTo_of (i+1,_) hi' (by simp only [];omega) (ent_of _ [] rfl rfl (by simp only [VCA,simprocAttr,encL,ls_imv,PL.imvc]))
theorem oper_rel (o:OP) (ho:o.sm):PRetR Tryz.prog 160 [.agg o.cells] (boV True):=by
  have hp:=place_rel o.place ho.2.2
  have hz:=samePlace_z o.place.name (SlZ.enc cS o.place.path)
  have e:V.agg o.place.cells = .agg [.str o.place.name,encL cS o.place.path]:=by rw [PL.cells_eq]
  rw [← e] at hz
  refine pretR_intro fdt160 (by simp) ?_
  simp only [lct160,VCA,simprocAttr,encL,MCA,OP.c0,OP.c1,OP.s2_2,OP.snapc,OP.sokc,OP.onec,OP.imvc,PL.snapc,PL.sokc,PL.imvc]
  repeat' (first|exact boV_t _|((first|refine condDn_of (fun h=>?_) (fun h=>?_)|refine condD_of (fun h=>?_) (fun h=>?_)|refine condVn_of (fun h=>?_) (fun h=>?_)|refine condV_of (fun h=>?_) (fun h=>?_)|refine gdDn_of (fun h=>?_) (fun h=>?_)|refine gdD_of (fun h=>?_) (fun h=>?_)|refine gdVMn_of (fun h=>?_) (fun h=>?_)|refine gdVM_of (fun h=>?_) (fun h=>?_)|refine gpDn_of (fun h=>?_) (fun h=>?_)|refine gpD_of (fun h=>?_) (fun h=>?_)|refine gdVn_of (fun h=>?_) (fun h=>?_)|refine gdV_of (fun h=>?_) (fun h=>?_))<;>simp only [VCA,simprocAttr,encL,MCA,boV_t,h,OP.c0,OP.c1,OP.s2_2,OP.snapc,OP.sokc,OP.onec,OP.imvc,PL.snapc,PL.sokc,PL.imvc])|(refine callRF_of (hp) (fun r hr=>?_) (by simp only [VCA,simprocAttr,encL,MCA,OP.c0,OP.c1,OP.s2_2,OP.snapc,OP.sokc,OP.onec,OP.imvc,PL.snapc,PL.sokc,PL.imvc]) (fun _=>boV_flat);obtain ⟨b,rfl,-⟩:=hr;try simp only [VCA,simprocAttr,encL,MCA,boV_t,OP.c0,OP.c1,OP.s2_2,OP.snapc,OP.sokc,OP.onec,OP.imvc,PL.snapc,PL.sokc,PL.imvc])|(refine callRF_of (hz) (fun r hr=>?_) (by simp only [VCA,simprocAttr,encL,MCA,OP.c0,OP.c1,OP.s2_2,OP.snapc,OP.sokc,OP.onec,OP.imvc,PL.snapc,PL.sokc,PL.imvc]) (fun _=>boV_flat);obtain ⟨b,rfl,-⟩:=hr;try simp only [VCA,simprocAttr,encL,MCA,boV_t,OP.c0,OP.c1,OP.s2_2,OP.snapc,OP.sokc,OP.onec,OP.imvc,PL.snapc,PL.sokc,PL.imvc]))
theorem place_x (p:PL) (hp:p.sm):PRetR Tryz.prog 158 [.agg [.str p.name,encL cS p.path]] (boV True):=by
  have h:=place_rel p hp
  rwa [PL.cells_eq] at h
theorem oper_x (o:OP) (ho:o.sm):PRetR Tryz.prog 160 [.agg [.int .i64 o.kind,.int .i64 o.n,.str o.place.name,encL cS o.place.path]] (boV True):=by
  have h:=oper_rel o ho
  rwa [OP.cells_eq] at h
theorem opers1_rel (o:OP) (ho:o.sm):PRetR Tryz.prog 177 [.agg o.cells] (boV True):=by
  have hp:=oper_rel o ho
  refine pretR_intro fdt177 (by simp) ?_
  simp only [lct177,VCA,simprocAttr,encL,MCA,OP.call,OP.snapc,OP.sokc,OP.onec,OP.imvc]
  repeat' (first|exact boV_t _|((first|refine condDn_of (fun h=>?_) (fun h=>?_)|refine condD_of (fun h=>?_) (fun h=>?_)|refine condVn_of (fun h=>?_) (fun h=>?_)|refine condV_of (fun h=>?_) (fun h=>?_)|refine gdDn_of (fun h=>?_) (fun h=>?_)|refine gdD_of (fun h=>?_) (fun h=>?_)|refine gdVMn_of (fun h=>?_) (fun h=>?_)|refine gdVM_of (fun h=>?_) (fun h=>?_)|refine gpDn_of (fun h=>?_) (fun h=>?_)|refine gpD_of (fun h=>?_) (fun h=>?_)|refine gdVn_of (fun h=>?_) (fun h=>?_)|refine gdV_of (fun h=>?_) (fun h=>?_))<;>simp only [VCA,simprocAttr,encL,MCA,boV_t,h,OP.snapc,OP.sokc,OP.onec,OP.imvc])|(refine callRF_of (hp) (fun r hr=>?_) (by simp only [VCA,simprocAttr,encL,MCA,OP.snapc,OP.sokc,OP.onec,OP.imvc]) (fun _=>boV_flat);obtain ⟨b,rfl,-⟩:=hr;try simp only [VCA,simprocAttr,encL,MCA,boV_t,OP.snapc,OP.sokc,OP.onec,OP.imvc]))
def inV (v:V):Prop:=∃ n:Int,v = .int .i64 n
theorem inV_t (n:Int):inV (.int .i64 n):=⟨n,rfl⟩
theorem inV_flat {v:V} (h:inV v):flat 4 v=true:=by obtain ⟨n,rfl⟩:=h;rfl
theorem indexO_rel (l:List OP) (hl:l.length≤SB) (hs:∀ o∈l,o.sm):PRetR Tryz.prog 184 [encL OP.cells l,.fn 177 []] inV:=by
  rw [sb_eq] at hl
  refine pretR_intro fdt184 (by simp) ?_
  simp only [lct184,VCA,simprocAttr,encL,MCA]
  refine loop_vcg (ι:=Nat × (Nat→Nat)) (fun (i,c)=>stO [(0,.val (encL OP.cells l)),(1,.val (.fn 177 [])),(7,.val (.int .i64 l.length)),(8,.val (.int .i64 i))] c)
    (fun (i,_)=>i≤l.length) (fun (i,_)=>l.length - i) (0,_) (Nat.zero_le _) (ent_of _ [] rfl rfl (by simp only [VCA,simprocAttr,encL,OP.imvs])) ?_
  rintro ⟨i,c⟩ hi
  have hi:i≤l.length:=hi
  simp only [VCA,simprocAttr,encL]
  refine condD_of (fun h=>?_) (fun h=>?_)
  case refine_2=>simp only [VCA,simprocAttr,encL,inV_t]
  have hi':i<l.length:=by omega
  have ii:0≤(i:Int)∧(i:Int)<l.length:=by omega
  have i2:InI64 ((i:Int)+1):=by unfold InI64;omega
  have hld:=OP.ld0 (l:=l) (i:=i) (n:=4) (agg:=true) hi' (by decide) (by decide)
  rw [OP.call] at hld
  have hm:=opers1_rel _ (hs _ (List.getElem_mem hi'))
  simp only [VCA,simprocAttr,encL,MCA,ii,hld,OP.snapc,OP.sokc]
  refine callRF_of hm (fun r hr=>?_) (by simp only [VCA,simprocAttr,encL,MCA,OP.snapc]) (fun _=>boV_flat)
  obtain ⟨b,rfl,-⟩:=hr
  cases b<;>simp only [VCA,simprocAttr,encL,MCA,inV_t,i2]
  exact backTo_of (i+1,_) hi' (by simp only [];omega) (ent_of _ [] rfl rfl (by simp only [VCA,simprocAttr,encL,OP.imvs]))
theorem containsO_rel (l:List OP) (hl:l.length≤SB) (hs:∀ o∈l,o.sm):PRetR Tryz.prog 176 [encL OP.cells l,.fn 177 []] (boV True):=by
  have hi:=indexO_rel l hl hs
  refine pretR_intro fdt176 (by simp) ?_
  simp only [lct176,VCA,simprocAttr,encL,MCA]
  refine callRF_of hi (fun r hr=>?_) (by simp only [VCA,simprocAttr,encL,MCA]) (fun _=>inV_flat)
  obtain ⟨n,rfl⟩:=hr
  simp only [VCA,simprocAttr,encL,MCA,boV_t]
theorem opers_rel (l:List OP) (hl:l.length≤SB) (hs:∀ o∈l,o.sm):PRetR Tryz.prog 166 [encL OP.cells l] (boV True):=by
  have hi:=containsO_rel l hl hs
  rw [sb_eq] at hl
  refine pretR_intro fdt166 (by simp) ?_
  simp only [lct166,VCA,simprocAttr,encL,MCA]
  repeat' (first|exact boV_t _|((first|refine condDn_of (fun h=>?_) (fun h=>?_)|refine condD_of (fun h=>?_) (fun h=>?_)|refine condVn_of (fun h=>?_) (fun h=>?_)|refine condV_of (fun h=>?_) (fun h=>?_)|refine gdDn_of (fun h=>?_) (fun h=>?_)|refine gdD_of (fun h=>?_) (fun h=>?_)|refine gdVMn_of (fun h=>?_) (fun h=>?_)|refine gdVM_of (fun h=>?_) (fun h=>?_)|refine gpDn_of (fun h=>?_) (fun h=>?_)|refine gpD_of (fun h=>?_) (fun h=>?_)|refine gdVn_of (fun h=>?_) (fun h=>?_)|refine gdV_of (fun h=>?_) (fun h=>?_))<;>simp only [VCA,simprocAttr,encL,MCA,boV_t,h])|(refine callRF_of (hi) (fun r hr=>?_) (by simp only [VCA,simprocAttr,encL,MCA]) (fun _=>boV_flat);obtain ⟨b,rfl,-⟩:=hr;try simp only [VCA,simprocAttr,encL,MCA,boV_t]))
set_option maxHeartbeats 4000000 in
theorem value_rel (v:VL) (hv:v.sm):PRetR Tryz.prog 159 [.agg v.cells] (boV True):=by
  obtain ⟨a1,a2,a3,a4,⟨a5,a5'⟩,a6,a6'⟩:=hv
  have hp:=place_x v.place a3
  have hA:=oper_x v.a a1
  have hB:=oper_x v.b a2
  have hd:=double_any a4
  have ho:=opers_rel v.args a6 a6'
  rw [sb_eq] at a5 a6
  rw [VL.cells_eq]
  refine pretR_intro fdt159 (by simp) ?_
  simp only [lct159,VCA,simprocAttr,encL,MCA,EXA]
  repeat' (first|exact boV_t _|((first|refine condDn_of (fun h=>?_) (fun h=>?_)|refine condD_of (fun h=>?_) (fun h=>?_)|refine condVn_of (fun h=>?_) (fun h=>?_)|refine condV_of (fun h=>?_) (fun h=>?_)|refine gdDn_of (fun h=>?_) (fun h=>?_)|refine gdD_of (fun h=>?_) (fun h=>?_)|refine gdVMn_of (fun h=>?_) (fun h=>?_)|refine gdVM_of (fun h=>?_) (fun h=>?_)|refine gpDn_of (fun h=>?_) (fun h=>?_)|refine gpD_of (fun h=>?_) (fun h=>?_)|refine gdVn_of (fun h=>?_) (fun h=>?_)|refine gdV_of (fun h=>?_) (fun h=>?_))<;>simp only [VCA,simprocAttr,encL,MCA,boV_t,h,EXA])|(refine callRF_of (hp) (fun r hr=>?_) (by simp only [VCA,simprocAttr,encL,MCA,EXA]) (fun _=>boV_flat);obtain ⟨b,rfl,-⟩:=hr;try simp only [VCA,simprocAttr,encL,MCA,boV_t,EXA])|(refine callRF_of (hA) (fun r hr=>?_) (by simp only [VCA,simprocAttr,encL,MCA,EXA]) (fun _=>boV_flat);obtain ⟨b,rfl,-⟩:=hr;try simp only [VCA,simprocAttr,encL,MCA,boV_t,EXA])|(refine callRF_of (hB) (fun r hr=>?_) (by simp only [VCA,simprocAttr,encL,MCA,EXA]) (fun _=>boV_flat);obtain ⟨b,rfl,-⟩:=hr;try simp only [VCA,simprocAttr,encL,MCA,boV_t,EXA])|(refine callRF_of (hd) (fun r hr=>?_) (by simp only [VCA,simprocAttr,encL,MCA,EXA]) (fun _=>boV_flat);obtain ⟨b,rfl,-⟩:=hr;try simp only [VCA,simprocAttr,encL,MCA,boV_t,EXA])|(refine callRF_of (ho) (fun r hr=>?_) (by simp only [VCA,simprocAttr,encL,MCA,EXA]) (fun _=>boV_flat);obtain ⟨b,rfl,-⟩:=hr;try simp only [VCA,simprocAttr,encL,MCA,boV_t,EXA])|(refine callRF_of (sameValue_z _ _ _ _ (by first|exact SlZ.e0|exact SlZ.enc _ _) _ _ _ (by first|exact SlZ.e0|exact SlZ.enc _ _) _ _ (by first|exact SlZ.e0|exact SlZ.enc _ _) _ (by first|exact SlZ.e0|exact SlZ.enc _ _) (by first|exact SlZ.e0|exact SlZ.enc _ _)) (fun r hr=>?_) (by simp only [VCA,simprocAttr,encL,MCA,EXA]) (fun _=>boV_flat);obtain ⟨b,rfl,-⟩:=hr;try simp only [VCA,simprocAttr,encL,MCA,boV_t,EXA]))
  refine loop_vcg (ι:=(Nat × Bool) × (Nat→Nat)) (fun y=>stO [(1,.box [.int .i64 v.kind,.int .i64 v.a.kind,.int .i64 v.a.n,.str v.a.place.name,encL cS v.a.place.path,.int .i64 v.b.kind,.int .i64 v.b.n,.str v.b.place.name,encL cS v.b.place.path,.int .i64 v.op,.str v.place.name,encL cS v.place.path,.str v.name,encL cS v.names,encL OP.cells v.args]),(3,.val (.bool y.1.2)),(4,.box [.int .i64 v.kind,.int .i64 v.a.kind,.int .i64 v.a.n,.str v.a.place.name,encL cS v.a.place.path,.int .i64 v.b.kind,.int .i64 v.b.n,.str v.b.place.name,encL cS v.b.place.path,.int .i64 v.op,.str v.place.name,encL cS v.place.path,.str v.name,encL cS v.names,encL OP.cells v.args]),(28,.val (encL cS v.names)),(29,.val (.int .i64 v.names.length)),(30,.val (.int .i64 y.1.1))] y.2)
    (fun y=>y.1.1≤v.names.length) (fun y=>v.names.length - y.1.1) ((0,true),_) (Nat.zero_le _) (ent_of _ [] rfl rfl (by simp only [VCA,simprocAttr,encL,ls_imv,h])) ?_
  rintro ⟨⟨i,b⟩,c⟩ hi
  have hi:i≤v.names.length:=hi
  simp only [VCA,simprocAttr,encL,MCA,EXA]
  refine condD_of (fun h=>?_) (fun h=>?_)
  case refine_2 =>
    simp only [VCA,simprocAttr,encL,MCA,EXA]
    repeat' (first|exact boV_t _|((first|refine condDn_of (fun h=>?_) (fun h=>?_)|refine condD_of (fun h=>?_) (fun h=>?_)|refine condVn_of (fun h=>?_) (fun h=>?_)|refine condV_of (fun h=>?_) (fun h=>?_)|refine gdDn_of (fun h=>?_) (fun h=>?_)|refine gdD_of (fun h=>?_) (fun h=>?_)|refine gdVMn_of (fun h=>?_) (fun h=>?_)|refine gdVM_of (fun h=>?_) (fun h=>?_)|refine gpDn_of (fun h=>?_) (fun h=>?_)|refine gpD_of (fun h=>?_) (fun h=>?_)|refine gdVn_of (fun h=>?_) (fun h=>?_)|refine gdV_of (fun h=>?_) (fun h=>?_))<;>simp only [VCA,simprocAttr,encL,MCA,boV_t,h,EXA])|(refine callRF_of (hd) (fun r hr=>?_) (by simp only [VCA,simprocAttr,encL,MCA,EXA]) (fun _=>boV_flat);obtain ⟨b,rfl,-⟩:=hr;try simp only [VCA,simprocAttr,encL,MCA,boV_t,EXA])|(refine callRF_of (ho) (fun r hr=>?_) (by simp only [VCA,simprocAttr,encL,MCA,EXA]) (fun _=>boV_flat);obtain ⟨b,rfl,-⟩:=hr;try simp only [VCA,simprocAttr,encL,MCA,boV_t,EXA])|(refine callRF_of (sameValue_z _ _ _ _ (by first|exact SlZ.e0|exact SlZ.enc _ _) _ _ _ (by first|exact SlZ.e0|exact SlZ.enc _ _) _ _ (by first|exact SlZ.e0|exact SlZ.enc _ _) _ (by first|exact SlZ.e0|exact SlZ.enc _ _) (by first|exact SlZ.e0|exact SlZ.enc _ _)) (fun r hr=>?_) (by simp only [VCA,simprocAttr,encL,MCA,EXA]) (fun _=>boV_flat);obtain ⟨b,rfl,-⟩:=hr;try simp only [VCA,simprocAttr,encL,MCA,boV_t,EXA]))
  have hi':i<v.names.length:=by omega
  have ii:0≤(i:Int)∧(i:Int)<v.names.length:=by omega
  have i2:InI64 ((i:Int)+1):=by unfold InI64;omega
  have hm:=name_any (a5' _ (List.getElem_mem hi'))
  simp only [VCA,simprocAttr,encL,MCA,ii,st_ld hi']
  cases b<;>simp only [VCA,simprocAttr,encL,MCA,i2]
  · exact backTo_of ((i+1,false),_) hi' (by simp only [];omega) (ent_of _ [] rfl rfl (by simp only [VCA,simprocAttr,encL,ls_imv]))
  · refine callRF_of hm (fun r hr=>?_) (by simp only [VCA,simprocAttr,encL,MCA]) (fun _=>boV_flat)
    obtain ⟨b,rfl,-⟩:=hr
    simp only [VCA,simprocAttr,encL,MCA,i2]
    exact backTo_of ((i+1,b),_) hi' (by simp only [];omega) (ent_of _ [] rfl rfl (by simp only [VCA,simprocAttr,encL,ls_imv]))
end Go.Proofs.YtlnphjjhfgghkaaGreatDoor

namespace Go.Lg
def ZS (v:V):Prop:=∃ (a0:Int) (a1:Int) (a2:Bool) (a3:ByteArray) (a4:Int) (a5:ByteArray) (a6:V) (a7:V) (a8:Bool) (a9:ByteArray) (a10:V) (a11:Int) (a12:Int) (a13:Int) (a14:ByteArray) (a15:V) (a16:Int) (a17:Int) (a18:ByteArray) (a19:V) (a20:Int) (a21:ByteArray) (a22:V) (a23:ByteArray) (a24:V) (a25:V) (a26:Int) (a27:Int) (a28:ByteArray) (a29:V) (a30:V) (a31:V),SlZ a6∧SlZ a7∧SlZ a10∧SlZ a15∧SlZ a19∧SlZ a22∧SlZ a24∧SlZ a25∧SlZ a29∧SlZ a30∧SlZ a31∧v = .agg [.int .i64 a0,.int .i64 a1,.bool a2,.str a3,.int .i64 a4,.str a5,a6,a7,.bool a8,.str a9,a10,.int .i64 a11,.int .i64 a12,.int .i64 a13,.str a14,a15,.int .i64 a16,.int .i64 a17,.str a18,a19,.int .i64 a20,.str a21,a22,.str a23,a24,a25,.int .i64 a26,.int .i64 a27,.str a28,a29,a30,a31]
theorem ZS.mk {a0:Int} {a1:Int} {a2:Bool} {a3:ByteArray} {a4:Int} {a5:ByteArray} {a6:V} {a7:V} {a8:Bool} {a9:ByteArray} {a10:V} {a11:Int} {a12:Int} {a13:Int} {a14:ByteArray} {a15:V} {a16:Int} {a17:Int} {a18:ByteArray} {a19:V} {a20:Int} {a21:ByteArray} {a22:V} {a23:ByteArray} {a24:V} {a25:V} {a26:Int} {a27:Int} {a28:ByteArray} {a29:V} {a30:V} {a31:V} (h6:SlZ a6) (h7:SlZ a7) (h10:SlZ a10) (h15:SlZ a15) (h19:SlZ a19) (h22:SlZ a22) (h24:SlZ a24) (h25:SlZ a25) (h29:SlZ a29) (h30:SlZ a30) (h31:SlZ a31):ZS (.agg [.int .i64 a0,.int .i64 a1,.bool a2,.str a3,.int .i64 a4,.str a5,a6,a7,.bool a8,.str a9,a10,.int .i64 a11,.int .i64 a12,.int .i64 a13,.str a14,a15,.int .i64 a16,.int .i64 a17,.str a18,a19,.int .i64 a20,.str a21,a22,.str a23,a24,a25,.int .i64 a26,.int .i64 a27,.str a28,a29,a30,a31]):=⟨a0,a1,a2,a3,a4,a5,a6,a7,a8,a9,a10,a11,a12,a13,a14,a15,a16,a17,a18,a19,a20,a21,a22,a23,a24,a25,a26,a27,a28,a29,a30,a31,h6,h7,h10,h15,h19,h22,h24,h25,h29,h30,h31,rfl⟩
theorem SM.setx (s:SM) (k:Nat) (x:V) (xs:List V):setCells s.cells k (x::xs)=setCells [.int .i64 s.kind,.int .i64 s.at',.bool s.mu,.str s.name,.int .i64 s.type.kind,.str s.type.name,encL cS s.type.lives,encL TT.cells s.type.elem,.bool s.has,.str s.place.name,encL cS s.place.path,.int .i64 s.value.kind,.int .i64 s.value.a.kind,.int .i64 s.value.a.n,.str s.value.a.place.name,encL cS s.value.a.place.path,.int .i64 s.value.b.kind,.int .i64 s.value.b.n,.str s.value.b.place.name,encL cS s.value.b.place.path,.int .i64 s.value.op,.str s.value.place.name,encL cS s.value.place.path,.str s.value.name,encL cS s.value.names,encL OP.cells s.value.args,.int .i64 s.cond.kind,.int .i64 s.cond.n,.str s.cond.place.name,encL cS s.cond.place.path,encL SM.cells s.thn,encL SM.cells s.els] k (x::xs):=by rw [SM.cells_eq]
theorem SM.set0' (s:SM):setCells [.int .i64 0,.int .i64 0,.bool false,.str ⟨#[]⟩,.int .i64 0,.str ⟨#[]⟩,.e0,.e0,.bool false,.str ⟨#[]⟩,.e0,.int .i64 0,.int .i64 0,.int .i64 0,.str ⟨#[]⟩,.e0,.int .i64 0,.int .i64 0,.str ⟨#[]⟩,.e0,.int .i64 0,.str ⟨#[]⟩,.e0,.str ⟨#[]⟩,.e0,.e0,.int .i64 0,.int .i64 0,.str ⟨#[]⟩,.e0,.e0,.e0] 0 s.cells=s.cells:=setCells_all (by rw [SM.len];rfl)
end Go.Lg
namespace Go.Proofs.YtlnphjjhfgghkaaGreatDoor
open Go Go.Lg Go.RowKit
set_option maxRecDepth 20000
set_option maxHeartbeats 4000000 in
theorem optional_rel (s:SM) {a0:Int} {a1:Int} {a2:Bool} {a3:ByteArray} {a4:Int} {a5:ByteArray} {a6:V} {a7:V} {a8:Bool} {a9:ByteArray} {a10:V} {a11:Int} {a12:Int} {a13:Int} {a14:ByteArray} {a15:V} {a16:Int} {a17:Int} {a18:ByteArray} {a19:V} {a20:Int} {a21:ByteArray} {a22:V} {a23:ByteArray} {a24:V} {a25:V} {a26:Int} {a27:Int} {a28:ByteArray} {a29:V} {a30:V} {a31:V} (h6:SlZ a6) (h7:SlZ a7) (h10:SlZ a10) (h15:SlZ a15) (h19:SlZ a19) (h22:SlZ a22) (h24:SlZ a24) (h25:SlZ a25) (h29:SlZ a29) (h30:SlZ a30) (h31:SlZ a31):PRetR Tryz.prog 162 [.agg s.cells,.agg [.int .i64 a0,.int .i64 a1,.bool a2,.str a3,.int .i64 a4,.str a5,a6,a7,.bool a8,.str a9,a10,.int .i64 a11,.int .i64 a12,.int .i64 a13,.str a14,a15,.int .i64 a16,.int .i64 a17,.str a18,a19,.int .i64 a20,.str a21,a22,.str a23,a24,a25,.int .i64 a26,.int .i64 a27,.str a28,a29,a30,a31]] ZS:=by
  refine pretR_intro fdt162 (by simp) ?_
  simp only [lct162,VCA,simprocAttr,encL,MCA,SM.c0,SM.c8,EXA,h6.snap,h6.sok,h6.one,h6.imv,h7.snap,h7.sok,h7.one,h7.imv,h10.snap,h10.sok,h10.one,h10.imv,h15.snap,h15.sok,h15.one,h15.imv,h19.snap,h19.sok,h19.one,h19.imv,h22.snap,h22.sok,h22.one,h22.imv,h24.snap,h24.sok,h24.one,h24.imv,h25.snap,h25.sok,h25.one,h25.imv,h29.snap,h29.sok,h29.one,h29.imv,h30.snap,h30.sok,h30.one,h30.imv,h31.snap,h31.sok,h31.one,h31.imv]
  repeat' (first|exact ZS.mk (by first|exact SlZ.e0|assumption|exact SlZ.enc _ _) (by first|exact SlZ.e0|assumption|exact SlZ.enc _ _) (by first|exact SlZ.e0|assumption|exact SlZ.enc _ _) (by first|exact SlZ.e0|assumption|exact SlZ.enc _ _) (by first|exact SlZ.e0|assumption|exact SlZ.enc _ _) (by first|exact SlZ.e0|assumption|exact SlZ.enc _ _) (by first|exact SlZ.e0|assumption|exact SlZ.enc _ _) (by first|exact SlZ.e0|assumption|exact SlZ.enc _ _) (by first|exact SlZ.e0|assumption|exact SlZ.enc _ _) (by first|exact SlZ.e0|assumption|exact SlZ.enc _ _) (by first|exact SlZ.e0|assumption|exact SlZ.enc _ _)|refine condDn_of (fun h=>?_) (fun h=>?_)<;>simp only [VCA,simprocAttr,encL,MCA,SM.c0,SM.c8,EXA,h6.snap,h6.sok,h6.one,h6.imv,h7.snap,h7.sok,h7.one,h7.imv,h10.snap,h10.sok,h10.one,h10.imv,h15.snap,h15.sok,h15.one,h15.imv,h19.snap,h19.sok,h19.one,h19.imv,h22.snap,h22.sok,h22.one,h22.imv,h24.snap,h24.sok,h24.one,h24.imv,h25.snap,h25.sok,h25.one,h25.imv,h29.snap,h29.sok,h29.one,h29.imv,h30.snap,h30.sok,h30.one,h30.imv,h31.snap,h31.sok,h31.one,h31.imv,h]|refine condD_of (fun h=>?_) (fun h=>?_)<;>simp only [VCA,simprocAttr,encL,MCA,SM.c0,SM.c8,EXA,h6.snap,h6.sok,h6.one,h6.imv,h7.snap,h7.sok,h7.one,h7.imv,h10.snap,h10.sok,h10.one,h10.imv,h15.snap,h15.sok,h15.one,h15.imv,h19.snap,h19.sok,h19.one,h19.imv,h22.snap,h22.sok,h22.one,h22.imv,h24.snap,h24.sok,h24.one,h24.imv,h25.snap,h25.sok,h25.one,h25.imv,h29.snap,h29.sok,h29.one,h29.imv,h30.snap,h30.sok,h30.one,h30.imv,h31.snap,h31.sok,h31.one,h31.imv,h]|refine condVn_of (fun h=>?_) (fun h=>?_)<;>simp only [VCA,simprocAttr,encL,MCA,SM.c0,SM.c8,EXA,h6.snap,h6.sok,h6.one,h6.imv,h7.snap,h7.sok,h7.one,h7.imv,h10.snap,h10.sok,h10.one,h10.imv,h15.snap,h15.sok,h15.one,h15.imv,h19.snap,h19.sok,h19.one,h19.imv,h22.snap,h22.sok,h22.one,h22.imv,h24.snap,h24.sok,h24.one,h24.imv,h25.snap,h25.sok,h25.one,h25.imv,h29.snap,h29.sok,h29.one,h29.imv,h30.snap,h30.sok,h30.one,h30.imv,h31.snap,h31.sok,h31.one,h31.imv,h]|refine condV_of (fun h=>?_) (fun h=>?_)<;>simp only [VCA,simprocAttr,encL,MCA,SM.c0,SM.c8,EXA,h6.snap,h6.sok,h6.one,h6.imv,h7.snap,h7.sok,h7.one,h7.imv,h10.snap,h10.sok,h10.one,h10.imv,h15.snap,h15.sok,h15.one,h15.imv,h19.snap,h19.sok,h19.one,h19.imv,h22.snap,h22.sok,h22.one,h22.imv,h24.snap,h24.sok,h24.one,h24.imv,h25.snap,h25.sok,h25.one,h25.imv,h29.snap,h29.sok,h29.one,h29.imv,h30.snap,h30.sok,h30.one,h30.imv,h31.snap,h31.sok,h31.one,h31.imv,h])
theorem valued_rel (s:SM) (hs:s.sm):PRetR Tryz.prog 157 [.agg s.cells] (boV True):=by
  have hv:=value_rel s.value ((SM.sm_iff s).1 hs).2.2.2.1
  refine pretR_intro fdt157 (by simp) ?_
  simp only [lct157,VCA,simprocAttr,encL,MCA,SMA,SM.setx,SM.len,TT.len,PL.len,OP.len,VL.len]
  repeat' (first|exact boV_t _|((first|refine condDn_of (fun h=>?_) (fun h=>?_)|refine condD_of (fun h=>?_) (fun h=>?_)|refine condVn_of (fun h=>?_) (fun h=>?_)|refine condV_of (fun h=>?_) (fun h=>?_)|refine gdDn_of (fun h=>?_) (fun h=>?_)|refine gdD_of (fun h=>?_) (fun h=>?_)|refine gdVMn_of (fun h=>?_) (fun h=>?_)|refine gdVM_of (fun h=>?_) (fun h=>?_)|refine gpDn_of (fun h=>?_) (fun h=>?_)|refine gpD_of (fun h=>?_) (fun h=>?_)|refine gdVn_of (fun h=>?_) (fun h=>?_)|refine gdV_of (fun h=>?_) (fun h=>?_))<;>simp only [VCA,simprocAttr,encL,MCA,boV_t,h,SMA,SM.setx,SM.len,TT.len,PL.len,OP.len,VL.len])|(refine callRF_of (hv) (fun r hr=>?_) (by simp only [VCA,simprocAttr,encL,MCA,SMA,SM.setx,SM.len,TT.len,PL.len,OP.len,VL.len]) (fun _=>boV_flat);obtain ⟨b,rfl,-⟩:=hr;try simp only [VCA,simprocAttr,encL,MCA,boV_t,SMA,SM.setx,SM.len,TT.len,PL.len,OP.len,VL.len]))
theorem block_rel (l:List SM) (hl:l.length≤SB) (hs:∀ s∈l,∀ d:Nat,d≤64→PRetR Tryz.prog 144 [.agg s.cells,.int .i64 d] (boV True)) (d:Nat) (hd:d≤65) :
    PRetR Tryz.prog 119 [encL SM.cells l,.int .i64 d] (boV True):=by
  rw [sb_eq] at hl
  refine pretR_intro fdt119 (by simp) ?_
  simp only [lct119,VCA,simprocAttr,encL,MCA]
  refine condD_of (fun h0=>?_) (fun h0=>?_)
  · simp only [VCA,simprocAttr,encL,MCA,boV_t]
  have hd':d≤64:=by omega
  simp only [VCA,simprocAttr,encL,MCA]
  refine loop_vcg (ι:=Nat × (Nat→Nat)) (fun (i,c)=>stO [(1,.val (.int .i64 d)),(9,.val (encL SM.cells l)),(10,.val (.int .i64 l.length)),(11,.val (.int .i64 i))] c)
    (fun (i,_)=>i≤l.length) (fun (i,_)=>l.length - i) (0,_) (Nat.zero_le _) (ent_of _ [] rfl rfl (by simp only [VCA,simprocAttr,encL,SM.imvs])) ?_
  rintro ⟨i,c⟩ hi
  have hi:i≤l.length:=hi
  simp only [VCA,simprocAttr,encL]
  refine condD_of (fun h=>?_) (fun h=>?_)
  case refine_2=>simp only [VCA,simprocAttr,encL,boV_t]
  have hi':i<l.length:=by omega
  have ii:0≤(i:Int)∧(i:Int)<l.length:=by omega
  have i2:InI64 ((i:Int)+1):=by unfold InI64;omega
  have hld:=SM.ld0 (l:=l) (i:=i) (n:=32) (agg:=true) hi' (by decide) (by decide)
  rw [SM.call] at hld
  have hm:=hs _ (List.getElem_mem hi') d hd'
  simp only [VCA,simprocAttr,encL,MCA,ii,hld,SM.set0',SM.len,SM.call,SM.snapc,SM.sokc,SM.onec,SM.imvc]
  repeat' (first|exact boV_t _|((first|refine condDn_of (fun h=>?_) (fun h=>?_)|refine condD_of (fun h=>?_) (fun h=>?_)|refine condVn_of (fun h=>?_) (fun h=>?_)|refine condV_of (fun h=>?_) (fun h=>?_)|refine gdDn_of (fun h=>?_) (fun h=>?_)|refine gdD_of (fun h=>?_) (fun h=>?_)|refine gdVMn_of (fun h=>?_) (fun h=>?_)|refine gdVM_of (fun h=>?_) (fun h=>?_)|refine gpDn_of (fun h=>?_) (fun h=>?_)|refine gpD_of (fun h=>?_) (fun h=>?_)|refine gdVn_of (fun h=>?_) (fun h=>?_)|refine gdV_of (fun h=>?_) (fun h=>?_))<;>simp only [VCA,simprocAttr,encL,MCA,boV_t,h,i2,SM.snapc,SM.sokc,SM.onec,SM.imvc])|(refine callRF_of (hm) (fun r hr=>?_) (by simp only [VCA,simprocAttr,encL,MCA,i2,SM.snapc,SM.sokc,SM.onec,SM.imvc]) (fun _=>boV_flat);obtain ⟨b,rfl,-⟩:=hr;try simp only [VCA,simprocAttr,encL,MCA,boV_t,i2,SM.snapc,SM.sokc,SM.onec,SM.imvc]))
  all_goals exact backTo_of (i+1,_) hi' (by simp only [];omega) (ent_of _ [] rfl rfl (by simp only [VCA,simprocAttr,encL,SM.imvs]))
set_option maxHeartbeats 8000000 in
theorem stmt_rel:∀ (s:SM),s.sm→∀ d:Nat,d≤64→PRetR Tryz.prog 144 [.agg s.cells,.int .i64 d] (boV True):=by
  refine SM.ind ?_
  intro s iht ihe hs d hd
  obtain ⟨s1,s2,s3,s4,s5,⟨s6,s6'⟩,s7,s7'⟩:=(SM.sm_iff s).1 hs
  have hn:=name_any s1
  have hk:PRetR Tryz.prog 118 [.agg s.type.cells,.int .i64 1] (boV True):=boV_any (kind_ret s.type s2 1 (by decide))
  have hp:=place_rel s.place s3
  have hv:=value_rel s.value s4
  have hva:=valued_rel s hs
  have ho:=oper_rel s.cond s5
  have hT:=block_rel s.thn s6 (fun x hx=>iht x hx (s6' x hx)) (d+1) (by omega)
  have hE:=block_rel s.els s7 (fun x hx=>ihe x hx (s7' x hx)) (d+1) (by omega)
  have e1:((d+1:Nat):Int)=(d:Int)+1:=by omega
  rw [e1] at hT hE
  have i2:InI64 ((d:Int)+1):=by unfold InI64;omega
  refine pretR_intro fdt144 (by simp) ?_
  simp only [lct144,VCA,simprocAttr,encL,MCA,EXA,SMA,SM.setx,SM.len,TT.len,PL.len,OP.len,VL.len]
  repeat' (first|exact boV_t _|((first|refine condDn_of (fun h=>?_) (fun h=>?_)|refine condD_of (fun h=>?_) (fun h=>?_)|refine condVn_of (fun h=>?_) (fun h=>?_)|refine condV_of (fun h=>?_) (fun h=>?_)|refine gdDn_of (fun h=>?_) (fun h=>?_)|refine gdD_of (fun h=>?_) (fun h=>?_)|refine gdVMn_of (fun h=>?_) (fun h=>?_)|refine gdVM_of (fun h=>?_) (fun h=>?_)|refine gpDn_of (fun h=>?_) (fun h=>?_)|refine gpD_of (fun h=>?_) (fun h=>?_)|refine gdVn_of (fun h=>?_) (fun h=>?_)|refine gdV_of (fun h=>?_) (fun h=>?_))<;>simp only [VCA,simprocAttr,encL,MCA,boV_t,h,EXA,i2,SMA,SM.setx,SM.len,TT.len,PL.len,OP.len,VL.len])|(refine callRF_of (hn) (fun r hr=>?_) (by simp only [VCA,simprocAttr,encL,MCA,EXA,i2,SMA,SM.setx,SM.len,TT.len,PL.len,OP.len,VL.len]) (fun _=>boV_flat);obtain ⟨b,rfl,-⟩:=hr;try simp only [VCA,simprocAttr,encL,MCA,boV_t,EXA,i2,SMA,SM.setx,SM.len,TT.len,PL.len,OP.len,VL.len])|(refine callRF_of (hk) (fun r hr=>?_) (by simp only [VCA,simprocAttr,encL,MCA,EXA,i2,SMA,SM.setx,SM.len,TT.len,PL.len,OP.len,VL.len]) (fun _=>boV_flat);obtain ⟨b,rfl,-⟩:=hr;try simp only [VCA,simprocAttr,encL,MCA,boV_t,EXA,i2,SMA,SM.setx,SM.len,TT.len,PL.len,OP.len,VL.len])|(refine callRF_of (hp) (fun r hr=>?_) (by simp only [VCA,simprocAttr,encL,MCA,EXA,i2,SMA,SM.setx,SM.len,TT.len,PL.len,OP.len,VL.len]) (fun _=>boV_flat);obtain ⟨b,rfl,-⟩:=hr;try simp only [VCA,simprocAttr,encL,MCA,boV_t,EXA,i2,SMA,SM.setx,SM.len,TT.len,PL.len,OP.len,VL.len])|(refine callRF_of (hv) (fun r hr=>?_) (by simp only [VCA,simprocAttr,encL,MCA,EXA,i2,SMA,SM.setx,SM.len,TT.len,PL.len,OP.len,VL.len]) (fun _=>boV_flat);obtain ⟨b,rfl,-⟩:=hr;try simp only [VCA,simprocAttr,encL,MCA,boV_t,EXA,i2,SMA,SM.setx,SM.len,TT.len,PL.len,OP.len,VL.len])|(refine callRF_of (hva) (fun r hr=>?_) (by simp only [VCA,simprocAttr,encL,MCA,EXA,i2,SMA,SM.setx,SM.len,TT.len,PL.len,OP.len,VL.len]) (fun _=>boV_flat);obtain ⟨b,rfl,-⟩:=hr;try simp only [VCA,simprocAttr,encL,MCA,boV_t,EXA,i2,SMA,SM.setx,SM.len,TT.len,PL.len,OP.len,VL.len])|(refine callRF_of (ho) (fun r hr=>?_) (by simp only [VCA,simprocAttr,encL,MCA,EXA,i2,SMA,SM.setx,SM.len,TT.len,PL.len,OP.len,VL.len]) (fun _=>boV_flat);obtain ⟨b,rfl,-⟩:=hr;try simp only [VCA,simprocAttr,encL,MCA,boV_t,EXA,i2,SMA,SM.setx,SM.len,TT.len,PL.len,OP.len,VL.len])|(refine callRF_of (hT) (fun r hr=>?_) (by simp only [VCA,simprocAttr,encL,MCA,EXA,i2,SMA,SM.setx,SM.len,TT.len,PL.len,OP.len,VL.len]) (fun _=>boV_flat);obtain ⟨b,rfl,-⟩:=hr;try simp only [VCA,simprocAttr,encL,MCA,boV_t,EXA,i2,SMA,SM.setx,SM.len,TT.len,PL.len,OP.len,VL.len])|(refine callRF_of (hE) (fun r hr=>?_) (by simp only [VCA,simprocAttr,encL,MCA,EXA,i2,SMA,SM.setx,SM.len,TT.len,PL.len,OP.len,VL.len]) (fun _=>boV_flat);obtain ⟨b,rfl,-⟩:=hr;try simp only [VCA,simprocAttr,encL,MCA,boV_t,EXA,i2,SMA,SM.setx,SM.len,TT.len,PL.len,OP.len,VL.len]))
  all_goals
    refine callR_of (optional_rel s (by first|exact SlZ.e0|assumption|exact SlZ.enc _ _) (by first|exact SlZ.e0|assumption|exact SlZ.enc _ _) (by first|exact SlZ.e0|assumption|exact SlZ.enc _ _) (by first|exact SlZ.e0|assumption|exact SlZ.enc _ _) (by first|exact SlZ.e0|assumption|exact SlZ.enc _ _) (by first|exact SlZ.e0|assumption|exact SlZ.enc _ _) (by first|exact SlZ.e0|assumption|exact SlZ.enc _ _) (by first|exact SlZ.e0|assumption|exact SlZ.enc _ _) (by first|exact SlZ.e0|assumption|exact SlZ.enc _ _) (by first|exact SlZ.e0|assumption|exact SlZ.enc _ _) (by first|exact SlZ.e0|assumption|exact SlZ.enc _ _)) (fun r hr=>?_) (by simp only [VCA,simprocAttr,encL,MCA,EXA,SMA,SM.setx,SM.len,TT.len,PL.len,OP.len,VL.len])
    obtain ⟨a0,a1,a2,a3,a4,a5,a6,a7,a8,a9,a10,a11,a12,a13,a14,a15,a16,a17,a18,a19,a20,a21,a22,a23,a24,a25,a26,a27,a28,a29,a30,a31,g6,g7,g10,g15,g19,g22,g24,g25,g29,g30,g31,rfl⟩:=hr
    simp only [VCA,simprocAttr,encL,MCA,EXA,SMA,SM.setx,SM.len,TT.len,PL.len,OP.len,VL.len,g6.snap,g6.sok,g6.one,g6.imv,g7.snap,g7.sok,g7.one,g7.imv,g10.snap,g10.sok,g10.one,g10.imv,g15.snap,g15.sok,g15.one,g15.imv,g19.snap,g19.sok,g19.one,g19.imv,g22.snap,g22.sok,g22.one,g22.imv,g24.snap,g24.sok,g24.one,g24.imv,g25.snap,g25.sok,g25.one,g25.imv,g29.snap,g29.sok,g29.one,g29.imv,g30.snap,g30.sok,g30.one,g30.imv,g31.snap,g31.sok,g31.one,g31.imv]
    refine callRF_of (sameStmt_z _ _ _ _ _ _ g6 g7 _ _ g10 _ _ _ _ g15 _ _ _ g19 _ _ g22 _ g24 g25 _ _ _ g29 g30 g31) (fun r hr=>?_) (by simp only [VCA,simprocAttr,encL,MCA,g6.snap,g6.sok,g6.one,g6.imv,g7.snap,g7.sok,g7.one,g7.imv,g10.snap,g10.sok,g10.one,g10.imv,g15.snap,g15.sok,g15.one,g15.imv,g19.snap,g19.sok,g19.one,g19.imv,g22.snap,g22.sok,g22.one,g22.imv,g24.snap,g24.sok,g24.one,g24.imv,g25.snap,g25.sok,g25.one,g25.imv,g29.snap,g29.sok,g29.one,g29.imv,g30.snap,g30.sok,g30.one,g30.imv,g31.snap,g31.sok,g31.one,g31.imv]) (fun _=>boV_flat)
    obtain ⟨b,rfl,-⟩:=hr
    simp only [VCA,simprocAttr,encL,MCA,boV_t]
end Go.Proofs.YtlnphjjhfgghkaaGreatDoor

namespace Go.Proofs.YtlnphjjhfgghkaaGreatDoor
open Go Go.Lg Go.Lg.Sh
set_option maxRecDepth 100000
def lct21:LC:=z (r 0 [o 1 0,b0 2]) (K [1] (z (z (r 1 [f 4 0 1,l 5 1 4,n 6 5,⟨some 7,.bin .gtr (.tmp 6) (.con (.int .i64 300)),none⟩,m 8 7,g 8 (f 9 1 1),g 8 (l 10 1 9),g 8 (n 11 10),⟨some 12,.bin .gtr (.tmp 11) (.con (.int .i64 300)),some ⟨8,false⟩⟩,q 13 8 12]) (K [1,13] (y 13 (K [] (z (r 2 [b1 2]) .ret)) .skip))) (K [1] (z (z (r 3 [i 3 0]) (K [1,3] (.block 0 (.loop (z (z (r 4 [m 14 3,f 15 1 1,l 16 1 15,n 17 16,s 18 14 17]) (K [1,3,18] (w 18 0))) (K [1,3] (z (.block 1 (z (r 6 [f 21 1 1,l 22 1 21,m 23 3,x 24 10 22 23,f 25 8 24,l 26 1 25,⟨some 27,.call 39 [.tmp 26,.con (.int .i64 70)],none⟩,⟨some 28,.bin .gtr (.tmp 27) (.con (.int .i64 68)),none⟩,m 29 28,g 29 (f 30 1 1),g 29 (l 31 1 30),g 29 (m 32 3),g 29 (x 33 10 31 32),g 29 (f 34 8 33),g 29 (l 35 1 34),g 29 (n 36 35),⟨some 37,.bin .gtr (.tmp 36) (.con (.int .i64 2100)),some ⟨29,false⟩⟩,q 38 29 37,m 39 38,g 39 (f 40 1 1),g 39 (l 41 1 40),g 39 (m 42 3),g 39 (x 43 10 41 42),g 39 (f 44 8 43),g 39 (l 45 1 44),g 39 (c 46 40 45),⟨some 47,.bin .gtr (.tmp 46) (.con (.int .i64 2100)),some ⟨39,false⟩⟩,q 48 39 47]) (K [1,3,48] (y 48 (K [] (z (r 7 [b1 2]) .ret)) .skip)))) (K [1,3] (r 5 [m 19 3,a 20 19 1,m 3 20]))))))))) (K [] (z (r 8 [b0 2]) .ret))))))
theorem fdt21:fnData Tryz.prog 21=some (49,lct21.erase,[LRV.tmp 2]):=by kernel_rfl
def lct39:LC:=z (r 0 [i 4 0]) (K [0,1] (z (r 1 [i 5 0]) (K [0,1,5] (z (z (r 2 [i 6 0]) (K [0,1,5,6] (.block 0 (.loop (z (z (r 3 [m 7 6,m 8 0,n 9 8,s 10 7 9,m 11 10,h 11 (m 12 1),⟨some 13,.bin .gtr (.tmp 12) (.con (.int .i64 0)),some ⟨11,true⟩⟩,p 14 11 13]) (K [0,1,5,6,14] (w 14 0))) (K [0,1,5,6] (z (.block 1 (.regf 5 [0,0,0,6,14,30,0,64,254,510,0,0,3072,7168,15360,0,32768,130558,261630,524287,1048575] [m 17 5,m 18 0,m 19 6,x 20 32 18 19,f 21 30 20,l 22 1 21,m 23 1,⟨some 24,.bin .sub (.tmp 23) (.con (.int .i64 1)),none⟩,C 25 39 22 24,a 26 25 1,m 27 0,m 28 6,x 29 32 27 28,f 30 31 29,l 31 1 30,m 32 1,⟨some 33,.bin .sub (.tmp 32) (.con (.int .i64 1)),none⟩,C 34 39 31 33,a 35 34 1,⟨some 36,.mx3 (.tmp 17) (.tmp 26) (.tmp 35),none⟩,m 5 36])) (K [0,1,5,6] (r 4 [m 15 6,a 16 15 1,m 6 16]))))))))) (K [5] (z (r 6 [m 37 5,m 4 37]) .ret))))))
theorem fdt39:fnData Tryz.prog 39=some (38,lct39.erase,[LRV.tmp 4]):=by kernel_rfl
def lct40:LC:=z (r 0 [i 2 0]) (K [0] (z (r 1 [m 5 0,n 6 5,m 3 6]) (K [0,3] (z (z (r 2 [i 4 0]) (K [0,3,4] (.block 0 (.loop (z (z (r 3 [m 7 4,m 8 0,n 9 8,s 10 7 9]) (K [0,3,4,10] (w 10 0))) (K [0,3,4] (z (.block 1 (.regf 5 [0,0,0,6,14,30,62,127,0,0,768,1792,3840,8062,16383,32767] [m 13 3,m 14 0,m 15 4,x 16 32 14 15,f 17 30 16,l 18 1 17,c 19 40 18,⟨some 20,.bin .add (.tmp 13) (.tmp 19),none⟩,m 21 0,m 22 4,x 23 32 21 22,f 24 31 23,l 25 1 24,c 26 40 25,⟨some 27,.bin .add (.tmp 20) (.tmp 26),none⟩,m 3 27])) (K [0,3,4] (r 4 [m 11 4,a 12 11 1,m 4 12]))))))))) (K [3] (z (r 6 [m 28 3,m 2 28]) .ret))))))
theorem fdt40:fnData Tryz.prog 40=some (29,lct40.erase,[LRV.tmp 2]):=by kernel_rfl
end Go.Proofs.YtlnphjjhfgghkaaGreatDoor

namespace Go.Lg
mutual
def SM.cnt:SM→Nat
  | .mk kind pos mu name type has place value cond thn els=>1+(SM.cntL thn+SM.cntL els)
def SM.cntL:List SM→Nat
  | []=>0
  | x::r=>SM.cnt x+SM.cntL r
end
theorem SM.cnt_eq (s:SM):s.cnt=1+(SM.cntL s.thn+SM.cntL s.els):=by cases s;rw [SM.cnt];rfl
def subL (l:List SM):Nat:=(l.map fun s=>SM.cntL s.thn+SM.cntL s.els).sum
theorem cntL_eq:∀ l:List SM,SM.cntL l=l.length+subL l
  | []=>rfl
  | x::r=>by rw [SM.cntL,SM.cnt_eq,cntL_eq r,subL,subL,List.map_cons,List.sum_cons,List.length_cons];omega
theorem subL_take {l:List SM} {i:Nat} (h:i<l.length):subL (l.take (i+1))=subL (l.take i)+(SM.cntL l[i].thn+SM.cntL l[i].els):=by
  rw [subL,subL,List.take_add_one,List.getElem?_eq_getElem h,List.map_append,List.sum_append];simp
theorem subL_le (l:List SM) (k:Nat):subL (l.take k)≤subL l:=by
  conv=>rhs;rw [← List.take_append_drop k l]
  rw [subL,subL,List.map_append,List.sum_append];omega
theorem cnt_mem:∀ {l:List SM} {s:SM},s∈l→s.cnt≤SM.cntL l
  | x::r,s,h=>by
    rw [SM.cntL]
    rcases List.mem_cons.1 h with rfl|h
    · omega
    · have:=cnt_mem h;omega
theorem subL_all (l:List SM):subL (l.take l.length)=subL l:=by rw [List.take_length]
mutual
def SM.dp:SM→Nat→Nat
  | .mk kind pos mu name type has place value cond thn els,m=>max (SM.dpL thn m+1) (SM.dpL els m+1)
def SM.dpL:List SM→Nat→Nat
  | [],_=>0
  | x::r,m=>max (match m with|0=>0|m' + 1=>SM.dp x m') (SM.dpL r m)
end
theorem SM.dp_eq (s:SM) (m:Nat):s.dp m=max (SM.dpL s.thn m+1) (SM.dpL s.els m+1):=by cases s;rw [SM.dp];rfl
theorem SM.dpL_le:∀ (m:Nat) (l:List SM),SM.dpL l m≤m
  | 0,[]=>Nat.le_refl _
  | 0,x::r=>by rw [SM.dpL];have:=SM.dpL_le 0 r;omega
  | m+1,[]=>Nat.zero_le _
  | m+1,x::r=>by
    rw [SM.dpL]
    have h1:=SM.dpL_le (m+1) r
    simp only [Nat.succ_eq_add_one] at h1 ⊢
    have h2:x.dp m≤m+1:=by
      rw [SM.dp_eq]
      have:=SM.dpL_le m x.thn
      have:=SM.dpL_le m x.els
      omega
    omega
theorem SM.dpL_take:∀ {l:List SM} {i m:Nat} (h:i<l.length),SM.dpL (l.take (i+1)) (m+1)=max (SM.dpL (l.take i) (m+1)) (l[i].dp m)
  | x::r,0,m,h=>by simp only [List.take_succ_cons,List.take_zero,SM.dpL,List.getElem_cons_zero];omega
  | x::r,i+1,m,h=>by
    have ih:=SM.dpL_take (l:=r) (i:=i) (m:=m) (by simp at h;omega)
    simp only [List.take_succ_cons,SM.dpL,List.getElem_cons_succ,Nat.succ_eq_add_one] at ih ⊢
    omega
theorem SM.dpL_zero:∀ l:List SM,SM.dpL l 0=0:=fun l=>Nat.le_zero.1 (SM.dpL_le 0 l)
def resB (f:FN):Bool:=(decide (f.result.kind=0) && nothingB f.result) || kindB f.result 1
def lifB (l:Lif):Bool:=lifeB l.1 && livesB l.2
def hdrB (f:FN):Bool:=f.lives.all lifB && (nameB f.name && (decide (f.lives.length≤64) && (fieldsB f.params true && resB f)))
end Go.Lg
namespace Go.Proofs.YtlnphjjhfgghkaaGreatDoor
open Go Go.Lg Go.RowKit
set_option maxRecDepth 20000
theorem count_step (l:List SM) (hl:SM.cntL l≤SB) (hh:∀ s∈l,PRet Tryz.prog 120 [encL SM.cells s.thn] (.int .i64 (SM.cntL s.thn))∧PRet Tryz.prog 120 [encL SM.cells s.els] (.int .i64 (SM.cntL s.els))) :
    PRet Tryz.prog 120 [encL SM.cells l] (.int .i64 (SM.cntL l)):=by
  rw [cntL_eq,sb_eq] at hl
  rw [cntL_eq]
  refine pret_intro fdt120 (by simp) ?_
  simp only [lct120,VCA,simprocAttr,encL,MCA]
  refine loop_vcg (ι:=Nat × (Nat→Nat)) (fun (i,c)=>stO [(3,.val (.int .i64 (l.length+subL (l.take i):Nat))),(8,.val (encL SM.cells l)),(9,.val (.int .i64 l.length)),(10,.val (.int .i64 i))] c)
    (fun (i,_)=>i≤l.length) (fun (i,_)=>l.length - i) (0,_) (Nat.zero_le _) (ent_of _ [] rfl rfl (by simp only [VCA,simprocAttr,encL,SM.imvs,List.take_zero,subL,List.map_nil,List.sum_nil,Nat.add_zero])) ?_
  rintro ⟨i,c⟩ hi
  have hi:i≤l.length:=hi
  simp only [VCA,simprocAttr,encL]
  refine condD_of (fun h=>?_) (fun h=>?_)
  case refine_2 =>
    obtain rfl:i=l.length:=by omega
    simp only [VCA,simprocAttr,encL,subL_all]
  have hi':i<l.length:=by omega
  have ii:0≤(i:Int)∧(i:Int)<l.length:=by omega
  have i2:InI64 ((i:Int)+1):=by unfold InI64;omega
  have hld:=SM.ld0 (l:=l) (i:=i) (n:=32) (agg:=true) hi' (by decide) (by decide)
  rw [SM.call] at hld
  obtain ⟨hT,hE⟩:=hh _ (List.getElem_mem hi')
  have e1:=subL_take hi'
  have e2:=subL_le l (i+1)
  have j1:InI64 ((l.length:Int)+(subL (l.take i):Nat)+(SM.cntL l[i].thn:Nat)):=by unfold InI64;omega
  have j2:InI64 ((l.length:Int)+(subL (l.take i):Nat)+(SM.cntL l[i].thn:Nat)+(SM.cntL l[i].els:Nat)):=by unfold InI64;omega
  simp only [VCA,simprocAttr,encL,MCA,ii,hld,SM.set0',SM.len,SM.call,SM.c30,SM.c31,SM.onec]
  refine callV_of hT (.inr rfl) ?_
  simp only [VCA,simprocAttr,encL,MCA,SM.len,SM.c30,SM.c31,j1]
  refine callV_of hE (.inr rfl) ?_
  simp only [VCA,simprocAttr,encL,MCA,i2,j2]
  refine backTo_of (i+1,_) hi' (by simp only [];omega) (ent_of _ [] rfl rfl ?_)
  have e3:(l.length:Int)+(subL (l.take (i+1)):Nat)=(l.length:Int)+(subL (l.take i):Nat)+(SM.cntL l[i].thn:Nat)+(SM.cntL l[i].els:Nat):=by omega
  simp only [VCA,simprocAttr,encL,SM.imvs,e3]
theorem count_all:∀ s:SM,(SM.cntL s.thn≤SB→PRet Tryz.prog 120 [encL SM.cells s.thn] (.int .i64 (SM.cntL s.thn)))∧(SM.cntL s.els≤SB→PRet Tryz.prog 120 [encL SM.cells s.els] (.int .i64 (SM.cntL s.els))):=by
  have main:∀ l:List SM,(∀ s∈l,(SM.cntL s.thn≤SB→PRet Tryz.prog 120 [encL SM.cells s.thn] (.int .i64 (SM.cntL s.thn)))∧(SM.cntL s.els≤SB→PRet Tryz.prog 120 [encL SM.cells s.els] (.int .i64 (SM.cntL s.els)))) →
      SM.cntL l≤SB→PRet Tryz.prog 120 [encL SM.cells l] (.int .i64 (SM.cntL l)):=fun l h hl =>
    count_step l hl fun s hs=>by
      have:=cnt_mem hs
      rw [SM.cnt_eq] at this
      exact ⟨(h s hs).1 (by omega),(h s hs).2 (by omega)⟩
  refine SM.ind fun s h1 h2=>⟨main _ h1,main _ h2⟩
theorem count_ret (l:List SM) (hl:SM.cntL l≤SB):PRet Tryz.prog 120 [encL SM.cells l] (.int .i64 (SM.cntL l)) :=
  count_step l hl fun s hs=>by
    have:=cnt_mem hs
    rw [SM.cnt_eq] at this
    exact ⟨(count_all s).1 (by omega),(count_all s).2 (by omega)⟩
theorem function_rel (f:FN) (hf:f.sm) (hc:SM.cntL f.body≤SB):PRetR Tryz.prog 93 [.agg f.cells] (boV (hdrB f=true)):=by
  obtain ⟨s1,⟨s2,s2'⟩,⟨s3,s3'⟩,s4,⟨s5,s5'⟩,s6⟩:=hf
  have hnt:=nothing_ret f.result
  have hkd:PRet Tryz.prog 118 [.agg f.result.cells,.int .i64 1] (.bool (kindB f.result 1)):=kind_ret f.result s4 1 (by decide)
  have hnm:=name_ret f.name (sb_max s1)
  have hfd:=fields_ret f.params true s3 s3'
  have hbl:PRetR Tryz.prog 119 [encL SM.cells f.body,.int .i64 1] (boV True):=block_rel f.body s5 (fun s hs d hd=>stmt_rel s (s5' s hs) d hd) 1 (by decide)
  have hct:=count_ret f.body hc
  rw [sb_eq] at s2
  refine pretR_intro fdt93 (by simp) ?_
  simp only [lct93,VCA,simprocAttr,encL,MCA,FNA,TT.snapc,TT.sokc,TT.imvc]
  refine loop_vcg (ι:=Nat × (Nat→Nat)) (fun (i,c)=>stO [(1,.box f.cells),(7,.val (encL cLif f.lives)),(8,.val (.int .i64 f.lives.length)),(9,.val (.int .i64 i))] c)
    (fun (i,_)=>i≤f.lives.length∧(f.lives.take i).all lifB=true) (fun (i,_)=>f.lives.length - i) (0,_) ⟨Nat.zero_le _,rfl⟩ (ent_of _ [] rfl rfl (by simp only [VCA,simprocAttr,encL,lf_imv,FNA,TT.snapc,TT.sokc,TT.imvc])) ?_
  rintro ⟨i,c⟩ ⟨hi,ha⟩
  have hi:i≤f.lives.length:=hi
  have ha:(f.lives.take i).all lifB=true:=ha
  simp only [VCA,simprocAttr,encL]
  refine condD_of (fun h=>?_) (fun h=>?_)
  case refine_2 =>
    obtain rfl:i=f.lives.length:=by omega
    rw [List.take_length] at ha
    simp only [VCA,simprocAttr,encL,MCA,FNA,TT.snapc,TT.sokc,TT.imvc,len64]
    repeat' (first|exact boV_t _|((first|refine condDn_of (fun h=>?_) (fun h=>?_)|refine condD_of (fun h=>?_) (fun h=>?_)|refine condVn_of (fun h=>?_) (fun h=>?_)|refine condV_of (fun h=>?_) (fun h=>?_)|refine gdDn_of (fun h=>?_) (fun h=>?_)|refine gdD_of (fun h=>?_) (fun h=>?_)|refine gdVMn_of (fun h=>?_) (fun h=>?_)|refine gdVM_of (fun h=>?_) (fun h=>?_)|refine gpDn_of (fun h=>?_) (fun h=>?_)|refine gpD_of (fun h=>?_) (fun h=>?_)|refine gdVn_of (fun h=>?_) (fun h=>?_)|refine gdV_of (fun h=>?_) (fun h=>?_))<;>simp only [VCA,simprocAttr,encL,MCA,boV_t,h,FNA,TT.snapc,TT.sokc,TT.imvc,len64])|(refine callX_of (hnt) (by first|exact Or.inr rfl|exact Or.inl rfl) ?_<;>simp only [VCA,simprocAttr,encL,MCA,boV_t,FNA,TT.snapc,TT.sokc,TT.imvc,len64])|(refine callX_of (hkd) (by first|exact Or.inr rfl|exact Or.inl rfl) ?_<;>simp only [VCA,simprocAttr,encL,MCA,boV_t,FNA,TT.snapc,TT.sokc,TT.imvc,len64])|(refine callX_of (hnm) (by first|exact Or.inr rfl|exact Or.inl rfl) ?_<;>simp only [VCA,simprocAttr,encL,MCA,boV_t,FNA,TT.snapc,TT.sokc,TT.imvc,len64])|(refine callX_of (hfd) (by first|exact Or.inr rfl|exact Or.inl rfl) ?_<;>simp only [VCA,simprocAttr,encL,MCA,boV_t,FNA,TT.snapc,TT.sokc,TT.imvc,len64])|(refine callRF_of (hbl) (fun r hr=>?_) (by simp only [VCA,simprocAttr,encL,MCA,FNA,TT.snapc,TT.sokc,TT.imvc,len64]) (fun _=>boV_flat);obtain ⟨b,rfl,-⟩:=hr;try simp only [VCA,simprocAttr,encL,MCA,boV_t,FNA,TT.snapc,TT.sokc,TT.imvc,len64])|(refine callX_of (hct) (by first|exact Or.inr rfl|exact Or.inl rfl) ?_<;>simp only [VCA,simprocAttr,encL,MCA,boV_t,FNA,TT.snapc,TT.sokc,TT.imvc,len64]))
    all_goals first|exact ⟨_,rfl,fun h=>absurd h (by decide)⟩|exact ⟨_,rfl,fun _=>by simp [hdrB,resB, *]⟩
  have hi':i<f.lives.length:=by omega
  have ii:0≤(i:Int)∧(i:Int)<f.lives.length:=by omega
  have i2:InI64 ((i:Int)+1):=by unfold InI64;omega
  have lA:=lf_A hi'
  obtain ⟨p,hp⟩:∃ p,p=f.lives[i]:=⟨_,rfl⟩
  rw [← hp] at lA
  have hpm:p∈f.lives:=hp▸List.getElem_mem hi'
  obtain ⟨p1,p2,p3⟩:=s2' p hpm
  have hlf:=tlife_ret p.1 (sb_max p1)
  have hlv:=tlives_ret p.2 (sb_max p2) fun s h=>sb_max (p3 s h)
  have hc0:ldV false 1 (cLif p) 0=some (.str p.1):=rfl
  have hc1:ldV false 1 (cLif p) 1=some (encL cS p.2):=rfl
  have hset:setCells [V.str ⟨#[]⟩,V.e0] 0 (cLif p)=cLif p:=rfl
  have hln:(cLif p).length=2:=rfl
  have hon:(cLif p).all V.one=true:=rfl
  have good:lifeB p.1=true→livesB p.2=true→(f.lives.take (i+1)).all lifB=true:=fun a b=>all_take hi' ha (by rw [← hp,lifB,a,b];rfl)
  simp only [VCA,simprocAttr,encL,MCA,ii,lA,hset,hc0,hc1,hln,hon]
  repeat' (first|exact boV_t _|((first|refine condDn_of (fun h=>?_) (fun h=>?_)|refine condD_of (fun h=>?_) (fun h=>?_)|refine condVn_of (fun h=>?_) (fun h=>?_)|refine condV_of (fun h=>?_) (fun h=>?_)|refine gdDn_of (fun h=>?_) (fun h=>?_)|refine gdD_of (fun h=>?_) (fun h=>?_)|refine gdVMn_of (fun h=>?_) (fun h=>?_)|refine gdVM_of (fun h=>?_) (fun h=>?_)|refine gpDn_of (fun h=>?_) (fun h=>?_)|refine gpD_of (fun h=>?_) (fun h=>?_)|refine gdVn_of (fun h=>?_) (fun h=>?_)|refine gdV_of (fun h=>?_) (fun h=>?_))<;>simp only [VCA,simprocAttr,encL,MCA,boV_t,h,i2,hc0,hc1])|(refine callX_of (hlf) (by first|exact Or.inr rfl|exact Or.inl rfl) ?_<;>simp only [VCA,simprocAttr,encL,MCA,boV_t,i2,hc0,hc1])|(refine callX_of (hlv) (by first|exact Or.inr rfl|exact Or.inl rfl) ?_<;>simp only [VCA,simprocAttr,encL,MCA,boV_t,i2,hc0,hc1]))
  all_goals first
    | exact ⟨_,rfl,fun h=>absurd h (by decide)⟩
    | (refine backTo_of (i+1,_) ⟨hi',good (by assumption) (by assumption)⟩ (by simp only [];omega) (ent_of _ [] rfl rfl ?_);simp only [VCA,simprocAttr,encL,lf_imv,FNA,TT.snapc,TT.sokc,TT.imvc])
end Go.Proofs.YtlnphjjhfgghkaaGreatDoor

namespace Go.Lg
open Go Go.RowKit
def boW (p q:Prop) (v:V):Prop:=∃ b:Bool,v = .bool b∧(b=true→p)∧(q→b=true)
theorem boW_flat {p q:Prop} {v:V} (h:boW p q v):flat 4 v=true:=by obtain ⟨b,rfl,_⟩:=h;rfl
theorem boW_no {p q:Prop} (h:¬ q):boW p q (.bool false):=⟨_,rfl,fun h=>absurd h (by decide),fun hq=>absurd hq h⟩
def CR.ok (c:CR):Prop:=c.sm∧∀ f∈c.funcs,SM.cntL f.body≤SB
def mayP (c:CR):Prop:=c.structs.length+c.funcs.length≤256∧c.structs.all struktB=true∧c.funcs.all hdrB=true
def mayQ (c:CR):Prop:=c.structs.length≤256∧c.structs.all struktB=true∧c.funcs=[]
theorem ST.imvs (d:Nat) (l:List ST):(l.flatMap ST.cells).all (imV (d+1))=true:=by
  induction l with
  | nil=>rfl
  | cons x r ih=>rw [List.flatMap_cons,List.all_append,ih,ST.imvc];rfl
theorem mx3_int (k:IntKind) (a b c:Int):lmx3 (.int k a) (.int k b) (.int k c) = .A True (.int k (max (max a b) c)):=by
  have e:(if (if a<b then b else a)<c then c else (if a<b then b else a))=max (max a b) c:=by
    split<;>split<;>omega
  simp only [lmx3,e,and_self]
theorem SM.ld {l:List SM} {i j n:Nat} {agg:Bool} (h:i<l.length) (hj:j+n≤32) (hn:0<n):ldV agg n (l.flatMap SM.cells) (i*32+j)=ldV agg n l[i].cells j:=ld_flat SM.len h hj hn
theorem FN.ld {l:List FN} {i j n:Nat} {agg:Bool} (h:i<l.length) (hj:j+n≤10) (hn:0<n):ldV agg n (l.flatMap FN.cells) (i*10+j)=ldV agg n l[i].cells j:=ld_flat FN.len h hj hn
theorem fn_set (f:FN):setCells [V.bool false,.str ⟨#[]⟩,.e0,.e0,.int .i64 0,.str ⟨#[]⟩,.e0,.e0,.e0,.int .i64 0] 0 f.cells=f.cells:=setCells_all (by rw [FN.len];rfl)
end Go.Lg
namespace Go.Proofs.YtlnphjjhfgghkaaGreatDoor
open Go Go.Lg Go.RowKit
set_option maxRecDepth 20000
theorem may_rel (c:CR) (hc:c.ok):PRetR Tryz.prog 51 [.agg c.cells] (boW (mayP c) (mayQ c)):=by
  obtain ⟨⟨⟨s1,s1'⟩,s2,s2'⟩,s3⟩:=hc
  rw [sb_eq] at s1 s2
  refine pretR_intro fdt51 (by simp) ?_
  simp only [lct51,VCA,simprocAttr,encL,MCA,CRA]
  have k1:InI64 ((c.structs.length:Int)+c.funcs.length):=by unfold InI64;omega
  simp only [VCA,simprocAttr,encL,MCA,CRA,k1]
  refine condD_of (fun h0=>?_) (fun h0=>?_)
  · simp only [VCA,simprocAttr,encL,MCA]
    exact boW_no fun h=>by
      have:=h.1
      rw [h.2.2] at h0
      simp at h0
      omega
  simp only [VCA,simprocAttr,encL,MCA,CRA]
  refine loop_vcg (ι:=Nat × (Nat→Nat)) (fun (i,e)=>stO [(1,.box c.cells),(16,.val (encL ST.cells c.structs)),(17,.val (.int .i64 c.structs.length)),(18,.val (.int .i64 i))] e)
    (fun (i,_)=>i≤c.structs.length∧(c.structs.take i).all struktB=true) (fun (i,_)=>c.structs.length - i) (0,_) ⟨Nat.zero_le _,rfl⟩ (ent_of _ [] rfl rfl (by simp only [VCA,simprocAttr,encL,MCA,ST.imvs,CRA])) ?_
  rintro ⟨i,e⟩ ⟨hi,ha⟩
  have hi:i≤c.structs.length:=hi
  have ha:(c.structs.take i).all struktB=true:=ha
  simp only [VCA,simprocAttr,encL]
  refine condD_of (fun h=>?_) (fun h=>?_)
  · have hi':i<c.structs.length:=by omega
    have ii:0≤(i:Int)∧(i:Int)<c.structs.length:=by omega
    have i2:InI64 ((i:Int)+1):=by unfold InI64;omega
    have hld:=ST.ld0 (l:=c.structs) (i:=i) (n:=5) (agg:=true) hi' (by decide) (by decide)
    rw [ST.call] at hld
    have hst:=tstrukt_ret _ (s1' _ (List.getElem_mem hi'))
    simp only [VCA,simprocAttr,encL,MCA,ii,hld,st_setA,ST.len,ST.call,ST.snapc,ST.sokc,ST.onec,ST.imvc]
    refine callX_of hst (.inr rfl) ?_
    cases hb:struktB c.structs[i]
    · simp only [VCA,simprocAttr,encL,MCA]
      exact boW_no fun h=>by
        have:=List.all_eq_true.1 h.2.1 _ (List.getElem_mem hi')
        rw [hb] at this;cases this
    simp only [VCA,simprocAttr,encL,MCA,i2]
    exact backTo_of (i+1,_) ⟨hi',all_take hi' ha hb⟩ (by simp only [];omega) (ent_of _ [] rfl rfl (by simp only [VCA,simprocAttr,encL,ST.imvs,CRA]))
  obtain rfl:i=c.structs.length:=by omega
  rw [List.take_length] at ha
  simp only [VCA,simprocAttr,encL,MCA,CRA]
  refine loop_vcg (ι:=Nat × (Nat→Nat)) (fun (i,e)=>stO [(27,.val (encL FN.cells c.funcs)),(28,.val (.int .i64 c.funcs.length)),(29,.val (.int .i64 i))] e)
    (fun (i,_)=>i≤c.funcs.length∧(c.funcs.take i).all hdrB=true) (fun (i,_)=>c.funcs.length - i) (0,_) ⟨Nat.zero_le _,rfl⟩ (ent_of _ [] rfl rfl (by simp only [VCA,simprocAttr,encL,MCA,FN.imvs,CRA])) ?_
  clear hi h
  rintro ⟨i,e⟩ ⟨hi,hb⟩
  have hi:i≤c.funcs.length:=hi
  have hb:(c.funcs.take i).all hdrB=true:=hb
  simp only [VCA,simprocAttr,encL]
  refine condD_of (fun h=>?_) (fun h=>?_)
  · have hi':i<c.funcs.length:=by omega
    have ii:0≤(i:Int)∧(i:Int)<c.funcs.length:=by omega
    have i2:InI64 ((i:Int)+1):=by unfold InI64;omega
    have hld:=FN.ld0 (l:=c.funcs) (i:=i) (n:=10) (agg:=true) hi' (by decide) (by decide)
    rw [FN.call] at hld
    have hfn:=function_rel _ (s2' _ (List.getElem_mem hi')) (s3 _ (List.getElem_mem hi'))
    simp only [VCA,simprocAttr,encL,MCA,ii,hld,fn_set,FN.len,FN.call,FN.snapc,FN.sokc,FN.onec,FN.imvc]
    refine callRF_of hfn (fun r hr=>?_) (by simp only [VCA,simprocAttr,encL,MCA,FN.snapc]) (fun _=>boV_flat)
    obtain ⟨b,rfl,hbt⟩:=hr
    cases b
    · simp only [VCA,simprocAttr,encL,MCA]
      exact boW_no fun h=>by
        have:=h.2.2
        rw [this] at hi'
        simp at hi'
    simp only [VCA,simprocAttr,encL,MCA,i2]
    exact backTo_of (i+1,_) ⟨hi',all_take hi' hb (hbt rfl)⟩ (by simp only [];omega) (ent_of _ [] rfl rfl (by simp only [VCA,simprocAttr,encL,FN.imvs]))
  obtain rfl:i=c.funcs.length:=by omega
  rw [List.take_length] at hb
  simp only [VCA,simprocAttr,encL,MCA]
  exact ⟨_,rfl,fun _=>⟨by omega,ha,hb⟩,fun _=>rfl⟩
theorem rcount_step (l:List SM) (hl:SM.cntL l≤SB) (hh:∀ s∈l,PRet Tryz.prog 40 [encL SM.cells s.thn] (.int .i64 (SM.cntL s.thn))∧PRet Tryz.prog 40 [encL SM.cells s.els] (.int .i64 (SM.cntL s.els))) :
    PRet Tryz.prog 40 [encL SM.cells l] (.int .i64 (SM.cntL l)):=by
  rw [cntL_eq,sb_eq] at hl
  rw [cntL_eq]
  refine pret_intro fdt40 (by simp) ?_
  simp only [lct40,VCA,simprocAttr,encL,MCA]
  refine loop_vcg (ι:=Nat × (Nat→Nat)) (fun (i,c)=>stO [(0,.val (encL SM.cells l)),(3,.val (.int .i64 (l.length+subL (l.take i):Nat))),(4,.val (.int .i64 i))] c)
    (fun (i,_)=>i≤l.length) (fun (i,_)=>l.length - i) (0,_) (Nat.zero_le _) (ent_of _ [] rfl rfl (by simp only [VCA,simprocAttr,encL,SM.imvs,List.take_zero,subL,List.map_nil,List.sum_nil,Nat.add_zero])) ?_
  rintro ⟨i,c⟩ hi
  have hi:i≤l.length:=hi
  simp only [VCA,simprocAttr,encL]
  refine condD_of (fun h=>?_) (fun h=>?_)
  case refine_2 =>
    obtain rfl:i=l.length:=by omega
    simp only [VCA,simprocAttr,encL,subL_all]
  have hi':i<l.length:=by omega
  have ii:0≤(i:Int)∧(i:Int)<l.length:=by omega
  have i2:InI64 ((i:Int)+1):=by unfold InI64;omega
  have hT30:=SM.ld (l:=l) (i:=i) (j:=30) (n:=1) (agg:=false) hi' (by decide) (by decide)
  have hT31:=SM.ld (l:=l) (i:=i) (j:=31) (n:=1) (agg:=false) hi' (by decide) (by decide)
  rw [SM.c30] at hT30
  rw [SM.c31] at hT31
  obtain ⟨hT,hE⟩:=hh _ (List.getElem_mem hi')
  have e1:=subL_take hi'
  have e2:=subL_le l (i+1)
  have j1:InI64 ((l.length:Int)+(subL (l.take i):Nat)+(SM.cntL l[i].thn:Nat)):=by unfold InI64;omega
  have j2:InI64 ((l.length:Int)+(subL (l.take i):Nat)+(SM.cntL l[i].thn:Nat)+(SM.cntL l[i].els:Nat)):=by unfold InI64;omega
  simp only [VCA,simprocAttr,encL,MCA,ii,hT30]
  refine callV_of hT (.inr rfl) ?_
  simp only [VCA,simprocAttr,encL,MCA,ii,hT31,j1]
  refine callV_of hE (.inr rfl) ?_
  simp only [VCA,simprocAttr,encL,MCA,i2,j2]
  refine backTo_of (i+1,_) hi' (by simp only [];omega) (ent_of _ [] rfl rfl ?_)
  have e3:(l.length:Int)+(subL (l.take (i+1)):Nat)=(l.length:Int)+(subL (l.take i):Nat)+(SM.cntL l[i].thn:Nat)+(SM.cntL l[i].els:Nat):=by omega
  simp only [VCA,simprocAttr,encL,SM.imvs,e3]
theorem rcount_all:∀ s:SM,(SM.cntL s.thn≤SB→PRet Tryz.prog 40 [encL SM.cells s.thn] (.int .i64 (SM.cntL s.thn)))∧(SM.cntL s.els≤SB→PRet Tryz.prog 40 [encL SM.cells s.els] (.int .i64 (SM.cntL s.els))):=by
  have main:∀ l:List SM,(∀ s∈l,(SM.cntL s.thn≤SB→PRet Tryz.prog 40 [encL SM.cells s.thn] (.int .i64 (SM.cntL s.thn)))∧(SM.cntL s.els≤SB→PRet Tryz.prog 40 [encL SM.cells s.els] (.int .i64 (SM.cntL s.els)))) →
      SM.cntL l≤SB→PRet Tryz.prog 40 [encL SM.cells l] (.int .i64 (SM.cntL l)):=fun l h hl =>
    rcount_step l hl fun s hs=>by
      have:=cnt_mem hs
      rw [SM.cnt_eq] at this
      exact ⟨(h s hs).1 (by omega),(h s hs).2 (by omega)⟩
  refine SM.ind fun s h1 h2=>⟨main _ h1,main _ h2⟩
theorem rcount_ret (l:List SM) (hl:SM.cntL l≤SB):PRet Tryz.prog 40 [encL SM.cells l] (.int .i64 (SM.cntL l)) :=
  rcount_step l hl fun s hs=>by
    have:=cnt_mem hs
    rw [SM.cnt_eq] at this
    exact ⟨(rcount_all s).1 (by omega),(rcount_all s).2 (by omega)⟩
theorem deep_step (l:List SM) (hl:l.length≤SB) (m:Nat) (hm:m≤70) (hh:∀ s∈l,∀ d:Nat,d≤70→PRet Tryz.prog 39 [encL SM.cells s.thn,.int .i64 d] (.int .i64 (SM.dpL s.thn d))∧PRet Tryz.prog 39 [encL SM.cells s.els,.int .i64 d] (.int .i64 (SM.dpL s.els d))) :
    PRet Tryz.prog 39 [encL SM.cells l,.int .i64 m] (.int .i64 (SM.dpL l m)):=by
  rw [sb_eq] at hl
  refine pret_intro fdt39 (by simp) ?_
  simp only [lct39,VCA,simprocAttr,encL,MCA]
  refine loop_vcg (ι:=Nat × (Nat→Nat)) (fun (i,c)=>stO [(0,.val (encL SM.cells l)),(1,.val (.int .i64 m)),(5,.val (.int .i64 (SM.dpL (l.take i) m))),(6,.val (.int .i64 i))] c)
    (fun (i,_)=>i≤l.length) (fun (i,_)=>l.length - i) (0,_) (Nat.zero_le _) (ent_of _ [] rfl rfl (by simp only [VCA,simprocAttr,encL,SM.imvs,List.take_zero,SM.dpL])) ?_
  rintro ⟨i,c⟩ hi
  have hi:i≤l.length:=hi
  have hd0:=SM.dpL_le m (l.take i)
  simp only [VCA,simprocAttr,encL]
  rcases Nat.eq_zero_or_pos m with rfl|hp
  · have z1:=SM.dpL_zero (l.take i)
    have z2:=SM.dpL_zero l
    repeat' (first|exact boV_t _|((first|refine condDn_of (fun h=>?_) (fun h=>?_)|refine condD_of (fun h=>?_) (fun h=>?_)|refine condVn_of (fun h=>?_) (fun h=>?_)|refine condV_of (fun h=>?_) (fun h=>?_)|refine gdDn_of (fun h=>?_) (fun h=>?_)|refine gdD_of (fun h=>?_) (fun h=>?_)|refine gdVMn_of (fun h=>?_) (fun h=>?_)|refine gdVM_of (fun h=>?_) (fun h=>?_)|refine gpDn_of (fun h=>?_) (fun h=>?_)|refine gpD_of (fun h=>?_) (fun h=>?_)|refine gdVn_of (fun h=>?_) (fun h=>?_)|refine gdV_of (fun h=>?_) (fun h=>?_))<;>simp only [VCA,simprocAttr,encL,MCA,boV_t,h,z1,z2]))
  obtain ⟨m,rfl⟩:∃ k,m=k+1:=⟨m - 1,by omega⟩
  have mp:(0:Int)<(m:Int)+1:=by omega
  by_cases h:i<l.length
  case neg =>
    obtain rfl:i=l.length:=by omega
    have hn:¬ ((l.length:Int)<(l.length:Int)):=by omega
    simp only [VCA,simprocAttr,encL,MCA,hn,List.take_length,Bool.false_eq_true,decide_false]
  have hi':i<l.length:=by omega
  have ii:0≤(i:Int)∧(i:Int)<l.length:=by omega
  have i2:InI64 ((i:Int)+1):=by unfold InI64;omega
  have hT30:=SM.ld (l:=l) (i:=i) (j:=30) (n:=1) (agg:=false) hi' (by decide) (by decide)
  have hT31:=SM.ld (l:=l) (i:=i) (j:=31) (n:=1) (agg:=false) hi' (by decide) (by decide)
  rw [SM.c30] at hT30
  rw [SM.c31] at hT31
  obtain ⟨hT,hE⟩:=hh _ (List.getElem_mem hi') m (by omega)
  have b1:=SM.dpL_le m l[i].thn
  have b2:=SM.dpL_le m l[i].els
  have e1:(m:Int)+1 - 1=m:=by omega
  have j0:InI64 (m:Int):=by unfold InI64;omega
  have j1:InI64 ((SM.dpL l[i].thn m:Int)+1):=by unfold InI64;omega
  have j2:InI64 ((SM.dpL l[i].els m:Int)+1):=by unfold InI64;omega
  simp only [VCA,simprocAttr,encL,MCA,ii,mp,hT30,e1,j0,decide_true]
  refine callV_of hT (.inr rfl) ?_
  simp only [VCA,simprocAttr,encL,MCA,ii,hT31,j1,e1,j0]
  refine callV_of hE (.inr rfl) ?_
  simp only [VCA,simprocAttr,encL,MCA,i2,j2,mx3_int]
  refine backTo_of (i+1,_) hi' (by show l.length - (i+1)<l.length - i;omega) (ent_of _ [] rfl rfl ?_)
  have e3:=SM.dpL_take (m:=m) hi'
  rw [SM.dp_eq] at e3
  have e4:((SM.dpL (l.take (i+1)) (m+1):Nat):Int)=max (max (SM.dpL (l.take i) (m+1):Int) ((SM.dpL l[i].thn m:Int)+1)) ((SM.dpL l[i].els m:Int)+1):=by omega
  simp only [VCA,simprocAttr,encL,SM.imvs,e4]
theorem deep_all:∀ s:SM,s.sm→∀ d:Nat,d≤70→PRet Tryz.prog 39 [encL SM.cells s.thn,.int .i64 d] (.int .i64 (SM.dpL s.thn d))∧PRet Tryz.prog 39 [encL SM.cells s.els,.int .i64 d] (.int .i64 (SM.dpL s.els d)):=by
  refine SM.ind fun s h1 h2 hs d hd=>?_
  obtain ⟨_,_,_,_,_,⟨s6,s6'⟩,s7,s7'⟩:=(SM.sm_iff s).1 hs
  exact ⟨deep_step _ s6 d hd fun x hx=>h1 x hx (s6' x hx),deep_step _ s7 d hd fun x hx=>h2 x hx (s7' x hx)⟩
theorem deep_ret (l:List SM) (hl:l.length≤SB) (hs:∀ s∈l,s.sm):PRet Tryz.prog 39 [encL SM.cells l,.int .i64 70] (.int .i64 (SM.dpL l 70)) :=
  deep_step l hl 70 (by decide) fun s h=>deep_all s (hs s h)
theorem great_rel (c:CR) (hc:c.ok):PRetR Tryz.prog 21 [.agg c.cells] (boV True):=by
  obtain ⟨⟨⟨s1,s1'⟩,s2,s2'⟩,s3⟩:=hc
  rw [sb_eq] at s1 s2
  refine pretR_intro fdt21 (by simp) ?_
  simp only [lct21,VCA,simprocAttr,encL,MCA,CRA]
  repeat' (first|exact boV_t _|((first|refine condDn_of (fun h=>?_) (fun h=>?_)|refine condD_of (fun h=>?_) (fun h=>?_)|refine condVn_of (fun h=>?_) (fun h=>?_)|refine condV_of (fun h=>?_) (fun h=>?_)|refine gdDn_of (fun h=>?_) (fun h=>?_)|refine gdD_of (fun h=>?_) (fun h=>?_)|refine gdVMn_of (fun h=>?_) (fun h=>?_)|refine gdVM_of (fun h=>?_) (fun h=>?_)|refine gpDn_of (fun h=>?_) (fun h=>?_)|refine gpD_of (fun h=>?_) (fun h=>?_)|refine gdVn_of (fun h=>?_) (fun h=>?_)|refine gdV_of (fun h=>?_) (fun h=>?_))<;>simp only [VCA,simprocAttr,encL,MCA,boV_t,h,CRA]))
  all_goals
    refine loop_vcg (ι:=Nat × (Nat→Nat)) (fun (i,e)=>stO [(1,.box c.cells),(3,.val (.int .i64 i))] e)
      (fun (i,_)=>i≤c.funcs.length) (fun (i,_)=>c.funcs.length - i) (0,_) (Nat.zero_le _) (ent_of _ [] rfl rfl (by simp only [VCA,simprocAttr,encL,MCA,CRA])) ?_
    rintro ⟨i,e⟩ hi
    have hi:i≤c.funcs.length:=hi
    simp only [VCA,simprocAttr,encL,MCA,CRA]
    refine condD_of (fun h=>?_) (fun h=>?_)
    case refine_2=>simp only [VCA,simprocAttr,encL,boV_t]
    have hi':i<c.funcs.length:=by omega
    have ii:0≤(i:Int)∧(i:Int)<c.funcs.length:=by omega
    have i2:InI64 ((i:Int)+1):=by unfold InI64;omega
    have hld:=FN.ld (l:=c.funcs) (i:=i) (j:=8) (n:=1) (agg:=false) hi' (by decide) (by decide)
    rw [FN.c8] at hld
    have hfm:=s2' _ (List.getElem_mem hi')
    obtain ⟨_,_,_,_,⟨s5,s5'⟩,_⟩:=hfm
    have hdp:=deep_ret _ s5 s5'
    have hct:=rcount_ret _ (s3 _ (List.getElem_mem hi'))
    simp only [VCA,simprocAttr,encL,MCA,CRA,ii,hld]
    repeat' (first|exact boV_t _|((first|refine condDn_of (fun h=>?_) (fun h=>?_)|refine condD_of (fun h=>?_) (fun h=>?_)|refine condVn_of (fun h=>?_) (fun h=>?_)|refine condV_of (fun h=>?_) (fun h=>?_)|refine gdDn_of (fun h=>?_) (fun h=>?_)|refine gdD_of (fun h=>?_) (fun h=>?_)|refine gdVMn_of (fun h=>?_) (fun h=>?_)|refine gdVM_of (fun h=>?_) (fun h=>?_)|refine gpDn_of (fun h=>?_) (fun h=>?_)|refine gpD_of (fun h=>?_) (fun h=>?_)|refine gdVn_of (fun h=>?_) (fun h=>?_)|refine gdV_of (fun h=>?_) (fun h=>?_))<;>simp only [VCA,simprocAttr,encL,MCA,boV_t,h,CRA,ii,hld,i2])|(refine callX_of (hdp) (by first|exact Or.inr rfl|exact Or.inl rfl) ?_<;>simp only [VCA,simprocAttr,encL,MCA,boV_t,CRA,ii,hld,i2])|(refine callX_of (hct) (by first|exact Or.inr rfl|exact Or.inl rfl) ?_<;>simp only [VCA,simprocAttr,encL,MCA,boV_t,CRA,ii,hld,i2]))
    all_goals exact backTo_of (i+1,_) hi' (by simp only [];omega) (ent_of _ [] rfl rfl (by simp only [VCA,simprocAttr,encL,MCA,CRA]))
end Go.Proofs.YtlnphjjhfgghkaaGreatDoor

namespace Go.Lg
open Go Go.RowKit
theorem PL.ws1 (x:PL):setCells x.cells 1 [.sl x.path.length (x.path.flatMap cS)]=x.cells:=by rw [PL.cells_eq];rfl
theorem PL.z0 (x:PL):setCells [V.str ⟨#[]⟩,V.e0] 0 x.cells=x.cells:=setCells_all (by rw [PL.len];rfl)
theorem OP.z0 (x:OP):setCells [V.int .i64 0,V.int .i64 0,V.str ⟨#[]⟩,V.e0] 0 x.cells=x.cells:=setCells_all (by rw [OP.len];rfl)
theorem VL.z0 (x:VL):setCells [V.int .i64 0,V.int .i64 0,V.int .i64 0,V.str ⟨#[]⟩,V.e0,V.int .i64 0,V.int .i64 0,V.str ⟨#[]⟩,V.e0,V.int .i64 0,V.str ⟨#[]⟩,V.e0,V.str ⟨#[]⟩,V.e0,V.e0] 0 x.cells=x.cells:=setCells_all (by rw [VL.len];rfl)
theorem VL.ws13 (x:VL):setCells x.cells 13 [.sl x.names.length (x.names.flatMap cS)]=x.cells:=by rw [VL.cells_eq];rfl
theorem VL.ws14 (x:VL):setCells x.cells 14 [.sl x.args.length (x.args.flatMap OP.cells)]=x.cells:=by rw [VL.cells_eq];rfl
theorem SM.ws30 (x:SM):setCells x.cells 30 [.sl x.thn.length (x.thn.flatMap SM.cells)]=x.cells:=by rw [SM.cells_eq];rfl
theorem SM.ws31 (x:SM):setCells x.cells 31 [.sl x.els.length (x.els.flatMap SM.cells)]=x.cells:=by rw [SM.cells_eq];rfl
end Go.Lg
namespace Go.Proofs.YtlnphjjhfgghkaaGreatDoor
open Go Go.Lg Go.RowKit
set_option maxRecDepth 20000
theorem cplace_ret (p:PL) (hp:p.sm):PRet Tryz.prog 101 [.agg p.cells] (.agg p.cells):=by
  have ht:=texts_ret p.path hp.2.1
  refine pret_intro fdt101 (by simp) ?_
  simp only [lct101,VCA,simprocAttr,encL,MCA,PL.c0,PL.c1,PL.call,PL.snapc,PL.sokc,PL.onec,PL.imvc,PL.len,PL.z0,OP.c0,OP.c1,OP.s2_2,OP.call,OP.snapc,OP.sokc,OP.onec,OP.imvc,OP.len,OP.z0,VL.s1_4,VL.s5_4,VL.s10_2,VL.c13,VL.c14,VL.call,VL.snapc,VL.sokc,VL.onec,VL.imvc,VL.len,VL.z0,PL.ws1,OP.w2,VL.w1,VL.w5,VL.w10,VL.ws13,VL.ws14]
  refine callX_of ht (.inl rfl) ?_
  simp only [VCA,simprocAttr,encL,MCA,PL.c0,PL.c1,PL.call,PL.snapc,PL.sokc,PL.onec,PL.imvc,PL.len,PL.z0,OP.c0,OP.c1,OP.s2_2,OP.call,OP.snapc,OP.sokc,OP.onec,OP.imvc,OP.len,OP.z0,VL.s1_4,VL.s5_4,VL.s10_2,VL.c13,VL.c14,VL.call,VL.snapc,VL.sokc,VL.onec,VL.imvc,VL.len,VL.z0,PL.ws1,OP.w2,VL.w1,VL.w5,VL.w10,VL.ws13,VL.ws14]
theorem coper_ret (o:OP) (ho:o.sm):PRet Tryz.prog 103 [.agg o.cells] (.agg o.cells):=by
  have ht:=cplace_ret o.place ho.2.2
  refine pret_intro fdt103 (by simp) ?_
  simp only [lct103,VCA,simprocAttr,encL,MCA,PL.c0,PL.c1,PL.call,PL.snapc,PL.sokc,PL.onec,PL.imvc,PL.len,PL.z0,OP.c0,OP.c1,OP.s2_2,OP.call,OP.snapc,OP.sokc,OP.onec,OP.imvc,OP.len,OP.z0,VL.s1_4,VL.s5_4,VL.s10_2,VL.c13,VL.c14,VL.call,VL.snapc,VL.sokc,VL.onec,VL.imvc,VL.len,VL.z0,PL.ws1,OP.w2,VL.w1,VL.w5,VL.w10,VL.ws13,VL.ws14]
  refine callX_of ht (.inl rfl) ?_
  simp only [VCA,simprocAttr,encL,MCA,PL.c0,PL.c1,PL.call,PL.snapc,PL.sokc,PL.onec,PL.imvc,PL.len,PL.z0,OP.c0,OP.c1,OP.s2_2,OP.call,OP.snapc,OP.sokc,OP.onec,OP.imvc,OP.len,OP.z0,VL.s1_4,VL.s5_4,VL.s10_2,VL.c13,VL.c14,VL.call,VL.snapc,VL.sokc,VL.onec,VL.imvc,VL.len,VL.z0,PL.ws1,OP.w2,VL.w1,VL.w5,VL.w10,VL.ws13,VL.ws14]
theorem cvalue_ret (v:VL) (hv:v.sm):PRet Tryz.prog 102 [.agg v.cells] (.agg v.cells):=by
  obtain ⟨a1,a2,a3,a4,⟨a5,a5'⟩,a6,a6'⟩:=hv
  have hA:=coper_ret v.a a1
  have hB:=coper_ret v.b a2
  have hP:=cplace_ret v.place a3
  have hN:=texts_ret v.names a5
  rw [sb_eq] at a6
  refine pret_intro fdt102 (by simp) ?_
  simp only [lct102,VCA,simprocAttr,encL,MCA,PL.c0,PL.c1,PL.call,PL.snapc,PL.sokc,PL.onec,PL.imvc,PL.len,PL.z0,OP.c0,OP.c1,OP.s2_2,OP.call,OP.snapc,OP.sokc,OP.onec,OP.imvc,OP.len,OP.z0,VL.s1_4,VL.s5_4,VL.s10_2,VL.c13,VL.c14,VL.call,VL.snapc,VL.sokc,VL.onec,VL.imvc,VL.len,VL.z0,PL.ws1,OP.w2,VL.w1,VL.w5,VL.w10,VL.ws13,VL.ws14]
  refine callV_of hA (.inl rfl) ?_
  simp only [VCA,simprocAttr,encL,MCA,PL.c0,PL.c1,PL.call,PL.snapc,PL.sokc,PL.onec,PL.imvc,PL.len,PL.z0,OP.c0,OP.c1,OP.s2_2,OP.call,OP.snapc,OP.sokc,OP.onec,OP.imvc,OP.len,OP.z0,VL.s1_4,VL.s5_4,VL.s10_2,VL.c13,VL.c14,VL.call,VL.snapc,VL.sokc,VL.onec,VL.imvc,VL.len,VL.z0,PL.ws1,OP.w2,VL.w1,VL.w5,VL.w10,VL.ws13,VL.ws14]
  refine callV_of hB (.inl rfl) ?_
  simp only [VCA,simprocAttr,encL,MCA,PL.c0,PL.c1,PL.call,PL.snapc,PL.sokc,PL.onec,PL.imvc,PL.len,PL.z0,OP.c0,OP.c1,OP.s2_2,OP.call,OP.snapc,OP.sokc,OP.onec,OP.imvc,OP.len,OP.z0,VL.s1_4,VL.s5_4,VL.s10_2,VL.c13,VL.c14,VL.call,VL.snapc,VL.sokc,VL.onec,VL.imvc,VL.len,VL.z0,PL.ws1,OP.w2,VL.w1,VL.w5,VL.w10,VL.ws13,VL.ws14]
  refine callV_of hP (.inl rfl) ?_
  simp only [VCA,simprocAttr,encL,MCA,PL.c0,PL.c1,PL.call,PL.snapc,PL.sokc,PL.onec,PL.imvc,PL.len,PL.z0,OP.c0,OP.c1,OP.s2_2,OP.call,OP.snapc,OP.sokc,OP.onec,OP.imvc,OP.len,OP.z0,VL.s1_4,VL.s5_4,VL.s10_2,VL.c13,VL.c14,VL.call,VL.snapc,VL.sokc,VL.onec,VL.imvc,VL.len,VL.z0,PL.ws1,OP.w2,VL.w1,VL.w5,VL.w10,VL.ws13,VL.ws14]
  refine callX_of hN (.inl rfl) ?_
  simp only [VCA,simprocAttr,encL,MCA,PL.c0,PL.c1,PL.call,PL.snapc,PL.sokc,PL.onec,PL.imvc,PL.len,PL.z0,OP.c0,OP.c1,OP.s2_2,OP.call,OP.snapc,OP.sokc,OP.onec,OP.imvc,OP.len,OP.z0,VL.s1_4,VL.s5_4,VL.s10_2,VL.c13,VL.c14,VL.call,VL.snapc,VL.sokc,VL.onec,VL.imvc,VL.len,VL.z0,PL.ws1,OP.w2,VL.w1,VL.w5,VL.w10,VL.ws13,VL.ws14]
  refine loop_vcg (ι:=Nat × (Nat→Nat)) (fun (i,c)=>stO [(1,.box v.cells),(2,.box [V.int .i64 0,V.int .i64 0,V.int .i64 0,V.str ⟨#[]⟩,V.e0,V.int .i64 0,V.int .i64 0,V.str ⟨#[]⟩,V.e0,V.int .i64 0,V.str ⟨#[]⟩,V.e0,V.str ⟨#[]⟩,V.e0,V.e0]),(3,.own 4 i ((v.args.take i).flatMap OP.cells)),(23,.val (encL OP.cells v.args)),(24,.val (.int .i64 v.args.length)),(25,.val (.int .i64 i))] c)
    (fun (i,_)=>i≤v.args.length) (fun (i,_)=>v.args.length - i) (0,_) (Nat.zero_le _) (ent_of _ [] rfl rfl (by simp only [VCA,simprocAttr,encL,OP.imvs,VL.imvc,List.take_zero,List.flatMap_nil];try decide)) ?_
  rintro ⟨i,c⟩ hi
  have hi:i≤v.args.length:=hi
  simp only [VCA,simprocAttr,encL]
  refine condD_of (fun h=>?_) (fun h=>?_)
  case refine_2 =>
    obtain rfl:i=v.args.length:=by omega
    rw [List.take_length]
    have htk:((v.args.flatMap OP.cells).take (v.args.length*4))=v.args.flatMap OP.cells:=List.take_of_length_le (by rw [flat_len OP.len];exact Nat.le_refl _)
    rw [VL.cells_eq]
    simp only [VCA,simprocAttr,encL,EXA,flat_len OP.len,OP.snaps,htk,Nat.le_refl]
  have hi':i<v.args.length:=by omega
  have ii:0≤(i:Int)∧(i:Int)<v.args.length:=by omega
  have i2:InI64 ((i:Int)+1):=by unfold InI64;omega
  have hld:=OP.ld0 (l:=v.args) (i:=i) (n:=4) (agg:=true) hi' (by decide) (by decide)
  rw [OP.call] at hld
  have hsz:(i+1)*56≤140737488355328∧i+1≤4611686018427387904:=by omega
  have hln:((v.args.take i).flatMap OP.cells).length=i*4:=by rw [flat_len OP.len,List.length_take,Nat.min_eq_left hi]
  simp only [VCA,simprocAttr,encL,PL.c0,PL.c1,PL.call,PL.snapc,PL.sokc,PL.onec,PL.imvc,PL.len,PL.z0,OP.c0,OP.c1,OP.s2_2,OP.call,OP.snapc,OP.sokc,OP.onec,OP.imvc,OP.len,OP.z0,VL.s1_4,VL.s5_4,VL.s10_2,VL.c13,VL.c14,VL.call,VL.snapc,VL.sokc,VL.onec,VL.imvc,VL.len,VL.z0,PL.ws1,OP.w2,VL.w1,VL.w5,VL.w10,VL.ws13,VL.ws14,ii,hld]
  refine callX_of (coper_ret _ (a6' _ (List.getElem_mem hi'))) (.inl rfl) ?_
  simp only [VCA,simprocAttr,encL,PL.c0,PL.c1,PL.call,PL.snapc,PL.sokc,PL.onec,PL.imvc,PL.len,PL.z0,OP.c0,OP.c1,OP.s2_2,OP.call,OP.snapc,OP.sokc,OP.onec,OP.imvc,OP.len,OP.z0,VL.s1_4,VL.s5_4,VL.s10_2,VL.c13,VL.c14,VL.call,VL.snapc,VL.sokc,VL.onec,VL.imvc,VL.len,VL.z0,PL.ws1,OP.w2,VL.w1,VL.w5,VL.w10,VL.ws13,VL.ws14,hln,hsz,i2]
  exact backTo_of (i+1,_) hi' (by simp only [];omega) (ent_of _ [] rfl rfl (by simp only [VCA,simprocAttr,encL,OP.imvs,VL.imvc,OP.tks hi']))
set_option maxHeartbeats 4000000 in
theorem cstmts_step (l:List SM) (hl:l.length≤SB) (hs:∀ s∈l,s.sm) (hh:∀ s∈l,PRet Tryz.prog 66 [encL SM.cells s.thn] (encL SM.cells s.thn)∧PRet Tryz.prog 66 [encL SM.cells s.els] (encL SM.cells s.els)) :
    PRet Tryz.prog 66 [encL SM.cells l] (encL SM.cells l):=by
  rw [sb_eq] at hl
  refine pret_intro fdt66 (by simp) ?_
  simp only [lct66,VCA,simprocAttr,encL,MCA]
  refine loop_vcg (ι:=Nat × (Nat→Nat)) (fun (i,c)=>stO [(3,.own 32 i ((l.take i).flatMap SM.cells)),(6,.val (encL SM.cells l)),(7,.val (.int .i64 l.length)),(8,.val (.int .i64 i))] c)
    (fun (i,_)=>i≤l.length) (fun (i,_)=>l.length - i) (0,_) (Nat.zero_le _) (ent_of _ [] rfl rfl (by simp only [VCA,simprocAttr,encL,SM.imvs,List.take_zero,List.flatMap_nil];try decide)) ?_
  rintro ⟨i,c⟩ hi
  have hi:i≤l.length:=hi
  simp only [VCA,simprocAttr,encL]
  refine condD_of (fun h=>?_) (fun h=>?_)
  case refine_2 =>
    obtain rfl:i=l.length:=by omega
    rw [List.take_length]
    have htk:((l.flatMap SM.cells).take (l.length*32))=l.flatMap SM.cells:=List.take_of_length_le (by rw [flat_len SM.len];exact Nat.le_refl _)
    simp only [VCA,simprocAttr,encL,flat_len SM.len,SM.snaps,htk,Nat.le_refl]
  have hi':i<l.length:=by omega
  have ii:0≤(i:Int)∧(i:Int)<l.length:=by omega
  have i2:InI64 ((i:Int)+1):=by unfold InI64;omega
  have hld:=SM.ld0 (l:=l) (i:=i) (n:=32) (agg:=true) hi' (by decide) (by decide)
  rw [SM.call] at hld
  have hsz:(i+1)*496≤140737488355328∧i+1≤4611686018427387904:=by omega
  have hln:((l.take i).flatMap SM.cells).length=i*32:=by rw [flat_len SM.len,List.length_take,Nat.min_eq_left hi]
  have htk:=SM.tks hi'
  obtain ⟨hT,hE⟩:=hh _ (List.getElem_mem hi')
  obtain ⟨s1,s2,s3,s4,s5,_,_⟩:=(SM.sm_iff _).1 (hs _ (List.getElem_mem hi'))
  generalize l[i]=s at *
  simp only [VCA,simprocAttr,encL,MCA,SM.call,SM.s4_4,SM.s9_2,SM.s11_15,SM.s26_4,SM.c30,SM.c31,SM.w4,SM.w9,SM.w11,SM.w26,SM.ws30,SM.ws31,SM.snapc,SM.sokc,SM.onec,SM.imvc,SM.len,SM.set0',TT.snapc,TT.sokc,TT.onec,TT.imvc,TT.len,PL.snapc,PL.sokc,PL.onec,PL.imvc,PL.len,VL.snapc,VL.sokc,VL.onec,VL.imvc,VL.len,OP.snapc,OP.sokc,OP.onec,OP.imvc,OP.len,ii,hld]
  refine callV_of (ctype_ret s.type s2) (.inl rfl) ?_
  simp only [VCA,simprocAttr,encL,MCA,SM.call,SM.s4_4,SM.s9_2,SM.s11_15,SM.s26_4,SM.c30,SM.c31,SM.w4,SM.w9,SM.w11,SM.w26,SM.ws30,SM.ws31,SM.snapc,SM.sokc,SM.onec,SM.imvc,SM.len,SM.set0',TT.snapc,TT.sokc,TT.onec,TT.imvc,TT.len,PL.snapc,PL.sokc,PL.onec,PL.imvc,PL.len,VL.snapc,VL.sokc,VL.onec,VL.imvc,VL.len,OP.snapc,OP.sokc,OP.onec,OP.imvc,OP.len]
  refine callV_of (cplace_ret s.place s3) (.inl rfl) ?_
  simp only [VCA,simprocAttr,encL,MCA,SM.call,SM.s4_4,SM.s9_2,SM.s11_15,SM.s26_4,SM.c30,SM.c31,SM.w4,SM.w9,SM.w11,SM.w26,SM.ws30,SM.ws31,SM.snapc,SM.sokc,SM.onec,SM.imvc,SM.len,SM.set0',TT.snapc,TT.sokc,TT.onec,TT.imvc,TT.len,PL.snapc,PL.sokc,PL.onec,PL.imvc,PL.len,VL.snapc,VL.sokc,VL.onec,VL.imvc,VL.len,OP.snapc,OP.sokc,OP.onec,OP.imvc,OP.len]
  refine callV_of (cvalue_ret s.value s4) (.inl rfl) ?_
  simp only [VCA,simprocAttr,encL,MCA,SM.call,SM.s4_4,SM.s9_2,SM.s11_15,SM.s26_4,SM.c30,SM.c31,SM.w4,SM.w9,SM.w11,SM.w26,SM.ws30,SM.ws31,SM.snapc,SM.sokc,SM.onec,SM.imvc,SM.len,SM.set0',TT.snapc,TT.sokc,TT.onec,TT.imvc,TT.len,PL.snapc,PL.sokc,PL.onec,PL.imvc,PL.len,VL.snapc,VL.sokc,VL.onec,VL.imvc,VL.len,OP.snapc,OP.sokc,OP.onec,OP.imvc,OP.len]
  refine callV_of (coper_ret s.cond s5) (.inl rfl) ?_
  simp only [VCA,simprocAttr,encL,MCA,SM.call,SM.s4_4,SM.s9_2,SM.s11_15,SM.s26_4,SM.c30,SM.c31,SM.w4,SM.w9,SM.w11,SM.w26,SM.ws30,SM.ws31,SM.snapc,SM.sokc,SM.onec,SM.imvc,SM.len,SM.set0',TT.snapc,TT.sokc,TT.onec,TT.imvc,TT.len,PL.snapc,PL.sokc,PL.onec,PL.imvc,PL.len,VL.snapc,VL.sokc,VL.onec,VL.imvc,VL.len,OP.snapc,OP.sokc,OP.onec,OP.imvc,OP.len]
  refine callV_of hT (.inl rfl) ?_
  simp only [VCA,simprocAttr,encL,MCA,SM.call,SM.s4_4,SM.s9_2,SM.s11_15,SM.s26_4,SM.c30,SM.c31,SM.w4,SM.w9,SM.w11,SM.w26,SM.ws30,SM.ws31,SM.snapc,SM.sokc,SM.onec,SM.imvc,SM.len,SM.set0',TT.snapc,TT.sokc,TT.onec,TT.imvc,TT.len,PL.snapc,PL.sokc,PL.onec,PL.imvc,PL.len,VL.snapc,VL.sokc,VL.onec,VL.imvc,VL.len,OP.snapc,OP.sokc,OP.onec,OP.imvc,OP.len]
  refine callV_of hE (.inl rfl) ?_
  simp only [VCA,simprocAttr,encL,MCA,SM.call,SM.s4_4,SM.s9_2,SM.s11_15,SM.s26_4,SM.c30,SM.c31,SM.w4,SM.w9,SM.w11,SM.w26,SM.ws30,SM.ws31,SM.snapc,SM.sokc,SM.onec,SM.imvc,SM.len,SM.set0',TT.snapc,TT.sokc,TT.onec,TT.imvc,TT.len,PL.snapc,PL.sokc,PL.onec,PL.imvc,PL.len,VL.snapc,VL.sokc,VL.onec,VL.imvc,VL.len,OP.snapc,OP.sokc,OP.onec,OP.imvc,OP.len,hln,hsz,i2]
  exact backTo_of (i+1,_) hi' (by simp only [];omega) (ent_of _ [] rfl rfl (by simp only [VCA,simprocAttr,encL,SM.imvs,htk]))
theorem cstmts_all:∀ s:SM,s.sm→PRet Tryz.prog 66 [encL SM.cells s.thn] (encL SM.cells s.thn)∧PRet Tryz.prog 66 [encL SM.cells s.els] (encL SM.cells s.els):=by
  refine SM.ind fun s h1 h2 hs=>?_
  obtain ⟨_,_,_,_,_,⟨s6,s6'⟩,s7,s7'⟩:=(SM.sm_iff s).1 hs
  exact ⟨cstmts_step _ s6 s6' fun x hx=>h1 x hx (s6' x hx),cstmts_step _ s7 s7' fun x hx=>h2 x hx (s7' x hx)⟩
theorem cstmts_ret (l:List SM) (hl:l.length≤SB) (hs:∀ s∈l,s.sm):PRet Tryz.prog 66 [encL SM.cells l] (encL SM.cells l):=cstmts_step l hl hs fun s h=>cstmts_all s (hs s h)
set_option maxHeartbeats 4000000 in
theorem cfunc_ret (f:FN) (hf:f.sm):PRet Tryz.prog 30 [.agg f.cells] (.agg f.cells):=by
  obtain ⟨s1,⟨s2,s2'⟩,⟨s3,s3'⟩,s4,⟨s5,s5'⟩,s6⟩:=hf
  have hP:=cfields_ret f.params s3 s3'
  have hR:=ctype_ret f.result s4
  rw [TT.cells_eq] at hR
  have hB:=cstmts_ret f.body s5 s5'
  rw [sb_eq] at s2
  rw [FN.cells_eq]
  refine pret_intro fdt30 (by simp) ?_
  simp only [lct30,VCA,simprocAttr,encL,MCA,EXA]
  refine loop_vcg (ι:=Nat × (Nat→Nat)) (fun (i,c)=>stO [(1,.box [.bool f.pub,.str f.name,encL cLif f.lives,encL FD.cells f.params,.int .i64 f.result.kind,.str f.result.name,encL cS f.result.lives,encL TT.cells f.result.elem,encL SM.cells f.body,.int .i64 f.at']),(2,.box [.bool false,.str ⟨#[]⟩,.e0,.e0,.int .i64 0,.str ⟨#[]⟩,.e0,.e0,.e0,.int .i64 0]),(3,.own 2 i ((f.lives.take i).flatMap cLif)),(7,.val (encL cLif f.lives)),(8,.val (.int .i64 f.lives.length)),(9,.val (.int .i64 i))] c)
    (fun (i,_)=>i≤f.lives.length) (fun (i,_)=>f.lives.length - i) (0,_) (Nat.zero_le _) (ent_of _ [] rfl rfl (by simp only [VCA,simprocAttr,encL,lf_imv,List.take_zero,List.flatMap_nil];try decide)) ?_
  rintro ⟨i,c⟩ hi
  have hi:i≤f.lives.length:=hi
  simp only [VCA,simprocAttr,encL]
  refine condD_of (fun h=>?_) (fun h=>?_)
  case refine_2 =>
    obtain rfl:i=f.lives.length:=by omega
    rw [List.take_length]
    have htk:((f.lives.flatMap cLif).take (f.lives.length*2))=f.lives.flatMap cLif:=List.take_of_length_le (by rw [lf_len];exact Nat.le_refl _)
    simp only [VCA,simprocAttr,encL,MCA,EXA]
    refine callX_of hP (.inl rfl) ?_
    simp only [VCA,simprocAttr,encL,MCA,EXA]
    refine callX_of hR (.inl rfl) ?_
    simp only [VCA,simprocAttr,encL,MCA,EXA]
    refine callX_of hB (.inl rfl) ?_
    simp only [VCA,simprocAttr,encL,MCA,EXA,lf_len,lf_snap,htk,Nat.le_refl]
  have hi':i<f.lives.length:=by omega
  have ii:0≤(i:Int)∧(i:Int)<f.lives.length:=by omega
  have i2:InI64 ((i:Int)+1):=by unfold InI64;omega
  have lA:=lf_A hi'
  have htk:(f.lives.take i).flatMap cLif++cLif f.lives[i]=(f.lives.take (i+1)).flatMap cLif:=by
    rw [List.take_add_one,List.getElem?_eq_getElem hi',List.flatMap_append];simp
  have hlm:=(s2' _ (List.getElem_mem hi')).2.1
  have hsz:(i+1)*40≤140737488355328∧i+1≤4611686018427387904:=by omega
  have hln:((f.lives.take i).flatMap cLif).length=i*2:=by rw [lf_len,List.length_take,Nat.min_eq_left hi]
  generalize f.lives[i]=p at *
  have hc0:ldV false 1 (cLif p) 0=some (.str p.1):=rfl
  have hc1:ldV false 1 (cLif p) 1=some (encL cS p.2):=rfl
  have hset:setCells [V.str ⟨#[]⟩,V.e0] 0 (cLif p)=cLif p:=rfl
  have hcl:[V.str p.1,V.sl p.2.length (p.2.flatMap cS)]=cLif p:=rfl
  have h2n:(cLif p).length=2:=rfl
  have h2o:(cLif p).all V.one=true:=rfl
  have h2i:∀ d,(cLif p).all (imV (d+1))=true:=fun d=>rfl
  simp only [VCA,simprocAttr,encL,MCA,EXA,ii,lA,hset,hc0,hc1,h2n,h2o]
  refine callV_of (texts_ret p.2 hlm) (.inl rfl) ?_
  simp only [VCA,simprocAttr,encL,MCA,EXA,hln,hsz,i2,hcl,hset,h2n,h2o,h2i]
  exact backTo_of (i+1,_) hi' (by simp only [];omega) (ent_of _ [] rfl rfl (by simp only [VCA,simprocAttr,encL,lf_imv,htk]))
end Go.Proofs.YtlnphjjhfgghkaaGreatDoor

namespace Go.Proofs.YtlnphjjhfgghkaaGreatDoor
open Go Go.Lg Go.RowKit
end Go.Proofs.YtlnphjjhfgghkaaGreatDoor

namespace Go.Lg
open Go Go.RowKit
theorem mapRo_nil {H:Heap} {esz:Nat} {U:Key→Prop} {K:(Key→Prop)→Prop} {k:Key} (hk:H k=some (.map [])) (hU:¬ U k) (hP:k.1<PK) (hK:K fun k'=>(k' = k∨∃ i:Nat,(none:Option Key)=some k')∨U k'):mapRAt H esz [] U K (.mm k) :=
  mapR_of (d:=0) (fun _=>none) hk rfl hP hU (fun e h=>by cases h) (fun i h=>by cases h) (fun i j k' h=>by cases h) (fun _ _=>rfl) hK
theorem enO_len (es:List Lif):(enO es).length=es.length:=by simp [enO]
theorem enO_im (es:List Lif):∀ e∈enO es,imV 8 e.1=true∧e.2.2.all (imV 8)=true:=by
  intro e he
  obtain ⟨p,_,rfl⟩:=List.mem_map.1 he
  exact ⟨rfl,ls_imv 8 p.2⟩
theorem enO_keys (es:List Lif):((enO es).all fun e=>keyV .str e.1)=true:=by
  rw [List.all_eq_true]
  intro e he
  obtain ⟨p,_,rfl⟩:=List.mem_map.1 he
  rfl
theorem enO_at {es:List Lif} {i:Nat} (h:i<es.length):(enO es)[i]'(by rw [enO_len];exact h)=(.str es[i].1,es[i].2.length,es[i].2.flatMap cS):=by simp [enO]
theorem snap_mapW {hf:Heap} {d D:Nat} {es:List (V × Nat × List V)}
    (ho:∀ (i:Nat) (h:i<es.length),hf (4398046511104+d,i)=some (.row 0 1 es[i].2.2)∧es[i].2.2.length=es[i].2.1∧es[i].2.2.map (snap hf D)=es[i].2.2∧snap hf (D+1) es[i].1=es[i].1) :
    (mapV d 0 es).map (fun e=>(snap hf (D+1) e.1,snap hf (D+1) e.2))=es.map fun e=>(e.1,.sl e.2.1 e.2.2):=by
  refine List.ext_getElem (by simp [mapV_len]) fun i h1 h2=>?_
  have hi:i<es.length:=by simpa using h2
  obtain ⟨a1,a2,a3,a4⟩:=ho i hi
  have hm:(mapV d 0 es)[i]'(by rw [mapV_len];exact hi)=(es[i].1,.msl (4398046511104+d,i) 0 0 es[i].2.1):=by
    have:=mapV_at d es 0 i hi
    rw [Nat.zero_add] at this
    exact (List.getElem?_eq_some_iff.1 this).2
  simp only [List.getElem_map,hm,a4,snap,a1]
  rw [if_pos ⟨trivial,by omega⟩,List.drop_zero,List.take_of_length_le (by omega),a3]
def imO (es:List Lif):List (V × V):=(enO es).map fun e=>(e.1,.sl e.2.1 e.2.2)
theorem imO_eq (es:List Lif):imO es=es.map fun p=>(.str p.1,.sl p.2.length (p.2.flatMap cS)):=by simp [imO,enO]
theorem imO_keys (es:List Lif):((imO es).all fun e=>keyV .str e.1)=true:=by
  rw [imO_eq,List.all_eq_true]
  intro e he
  obtain ⟨p,_,rfl⟩:=List.mem_map.1 he
  rfl
theorem find_imO (x:ByteArray):∀ es:List Lif,(findK (.str x) (imO es)=none∧lkO es x=[])∨∃ j,findK (.str x) (imO es)=some (j,.sl (lkO es x).length ((lkO es x).flatMap cS))
  | []=>.inl ⟨rfl,rfl⟩
  | p::r=>by
    rw [lkO_cons]
    have e1:imO (p::r)=(.str p.1,.sl p.2.length (p.2.flatMap cS))::imO r:=by simp [imO_eq]
    rw [e1]
    simp only [findK,eqK_str]
    by_cases e:x=p.1
    · rw [if_pos e];exact .inr ⟨0,by simp [e]⟩
    · rw [if_neg e]
      rcases find_imO x r with ⟨h1,h2⟩|⟨j,h⟩
      · exact .inl ⟨by simp [e,h1],h2⟩
      · exact .inr ⟨j+1,by simp [e,h]⟩
theorem univ_len:∀ (l:List Lif) (a:ByteArray) (m:Nat),(∀ p∈l,p.2.length≤m)→(univL l a).length≤1+l.length*(m+1)
  | [],_,m,_=>by simp [univL]
  | p::l,a,m,h=>by
    have h1:=univ_len l a m fun q hq=>h q (List.mem_cons_of_mem _ hq)
    have h2:=h p (List.mem_cons_self ..)
    have e:(p::l).length*(m+1)=l.length*(m+1)+(m+1):=by rw [List.length_cons,Nat.add_mul,Nat.one_mul]
    simp only [univL,List.length_cons,List.flatMap_cons,List.length_append,List.length_singleton] at h1 ⊢
    simp only [List.length_cons] at e
    simp only [List.length_nil]
    omega
theorem seE_keys (S:List ByteArray):((seE S).all fun e=>keyV .str e.1)=true:=by
  rw [List.all_eq_true]
  intro e he
  obtain ⟨p,_,rfl⟩:=List.mem_map.1 he
  rfl
theorem seE_snap (hf:Heap) (S:List ByteArray):(seE S).map (fun p=>(p.1,snap hf 8 p.2))=seE S:=by
  rw [seE,List.map_map]
  exact List.map_congr_left fun p _=>rfl
theorem seE_imv (S:List ByteArray):((seE S).all fun p=>imV 8 p.1)=true:=by
  rw [List.all_eq_true]
  intro e he
  obtain ⟨p,_,rfl⟩:=List.mem_map.1 he
  rfl
end Go.Lg
namespace Go.Proofs.YtlnphjjhfgghkaaGreatDoor
open Go Go.Lg Go.RowKit
theorem over_ret (F:FnC) (a b:ByteArray) (hL:F.lives.length≤64) (hO:∀ p∈F.lives,p.2.length≤64):PRet Tryz.prog 15 [.agg F.cells,.str a,.str b] (.bool (overB F.lives a b)):=by
  refine pret_intro fdv15 (by simp) ?_
  simp only [lcv15,VC0,VC1,VC2,VC3,VC4,VC5,VC6,VC7,VC8,VC9,reduceIte,reduceCtorEq,Nat.reduceEqDiff,Nat.reduceAdd,Nat.reduceMul,Nat.reduceBEq,Nat.reduceLT,Nat.reduceLeDiff,Int.reduceEq,Int.reduceLT,Int.reduceLE,Int.reduceNeg,Int.reduceToNat,Int.reduceAdd,Nat.reduceDiv,Nat.reduceSub,Nat.reduceMod,encL,FnC.onec,V.cells,FnC.ldA,FnC.snapc,FnC.sokc,FnC.ld2]
  refine loop_vcg (ι:=Nat × (Nat→Nat)) (fun (i,c)=>stO [(1,.val (.str a)),(2,.val (.str b)),(17,.val (.sl F.lives.length (F.lives.flatMap cLif))),(18,.val (.int .i64 F.lives.length)),(19,.val (.int .i64 i)),(7,.mapR 1 (enO (ovS (F.lives.take i))))] c)
    (fun (i,_)=>i≤F.lives.length) (fun (i,_)=>F.lives.length - i) (0,_) (Nat.zero_le _) (ent_of _ [] rfl rfl ?_) ?_
  · simp only [VC0,VC1,VC2,VC3,VC4,VC5,VC6,VC7,VC8,VC9,reduceIte,reduceCtorEq,Nat.reduceEqDiff,Nat.reduceAdd,Nat.reduceMul,Nat.reduceBEq,Nat.reduceLT,Nat.reduceLeDiff,Int.reduceEq,Int.reduceLT,Int.reduceLE,Int.reduceNeg,Int.reduceToNat,Int.reduceAdd,Nat.reduceDiv,Nat.reduceSub,Nat.reduceMod,encL,List.take_zero]
    exact mapRo_nil rfl (fun h=>h) (by show _<PK;unfold PK;decide) trivial
  rintro ⟨i,c⟩ hi
  have hi:i≤F.lives.length:=hi
  simp only [VC0,VC1,VC2,VC3,VC4,VC5,VC6,VC7,VC8,VC9,reduceIte,reduceCtorEq,Nat.reduceEqDiff,Nat.reduceAdd,Nat.reduceMul,Nat.reduceBEq,Nat.reduceLT,Nat.reduceLeDiff,Int.reduceEq,Int.reduceLT,Int.reduceLE,Int.reduceNeg,Int.reduceToNat,Int.reduceAdd,Nat.reduceDiv,Nat.reduceSub,Nat.reduceMod,encL]
  refine condD_of (fun h=>?_) (fun h=>?_)
  case refine_1 =>
    have hi':i<F.lives.length:=by omega
    have ii:0≤(i:Int)∧(i:Int)<F.lives.length:=by omega
    have i2:InI64 ((i:Int)+1):=by unfold InI64;omega
    have lA:=lf_A hi'
    obtain ⟨p,hp⟩:∃ p,p=F.lives[i]:=⟨_,rfl⟩
    rw [← hp] at lA
    have hpm:p∈F.lives:=hp▸List.getElem_mem hi'
    have hpo:=hO p hpm
    have htk:F.lives.take (i+1)=F.lives.take i++[p]:=by rw [List.take_add_one,List.getElem?_eq_getElem hi',← hp];rfl
    have hov:=ov_snoc (F.lives.take i) p
    rw [← htk] at hov
    have hlk:=fun x=>len_lk (m:=64) (F.lives.take i) (fun q hq=>hO q (List.mem_of_mem_take hq)) x
    have hle:(F.lives.take i).length≤64:=by rw [List.length_take];omega
    generalize ovS (F.lives.take i)=ov at hov hlk
    have hky:((mapV 7 0 (enO ov)).all fun e=>keyV .str e.1)=true:=by rw [mapV_keys];exact enO_keys ov
    have hkk:eqK (.str p.1) (.str p.1)=true:=by rw [eqK_str];exact decide_eq_true rfl
    have hsc:setCells [V.str ⟨#[]⟩] 0 [V.str p.1]=[V.str p.1]:=rfl
    have hc0:ldV false 1 (cLif p) 0=some (.str p.1):=rfl
    have hc1:ldV false 1 (cLif p) 1=some (.sl p.2.length (p.2.flatMap cS)):=rfl
    have hset:setCells [V.str ⟨#[]⟩,V.e0] 0 (cLif p)=cLif p:=rfl
    cases hx:ixO p.1 ov with
    | some j =>
      obtain ⟨hj,hek⟩:=ixK_lt (es:=enO ov) (k:=.str p.1) (by rw [ix_en];exact hx)
      rw [enO_len] at hj
      have hej:(enO ov)[j]? = some (.str ov[j].1,ov[j].2.length,ov[j].2.flatMap cS):=by rw [List.getElem?_eq_getElem (by rw [enO_len];exact hj),enO_at hj]
      have hj1:ov[j].1=p.1:=by
        rw [enO_at hj,eqK_str] at hek
        exact (of_decide_eq_true hek).symm
      have hf:findK (.str p.1) (mapV 7 0 (enO ov))=some (j,.msl (4398046511111,j) 0 0 ov[j].2.length):=by
        rw [find_mapV,ix_en,hx]
        simp only [Option.map_some,List.getD_eq_getElem?_getD,hej,Option.getD_some,Nat.zero_add]
      have hln:ov[j].2.length≤4160:=by
        have h1:=hlk p.1
        have h2:lkO ov p.1=ov[j].2:=by simp only [lkO,hx,List.getD_eq_getElem?_getD,List.getElem?_eq_getElem hj,Option.getD_some]
        rw [h2] at h1
        omega
      have hsz:(ov[j].2.length+p.2.length)*16≤140737488355328∧ov[j].2.length+p.2.length≤4611686018427387904:=by omega
      have hsz2:(ov[j].2.length+(p.2.length+1))*16≤140737488355328∧ov[j].2.length+(p.2.length+1)≤4611686018427387904:=by omega
      have s1:=fun v=>setK_some (v:=v) hf
      have f2:=fun v=>findK_set (v:=v) hkk hf
      have s2:=fun v v'=>setK_set (v:=v) (v':=v') hkk hf
      have k2:=fun v=>set_all (p:=fun e=>keyV .str e.1) (x:=(V.str p.1,v)) (j:=j) hky rfl
      generalize hM:mapV 7 0 (enO ov)=M at hky hf s1 f2 s2 k2
      simp only [VC0,VC1,VC2,VC3,VC4,VC5,VC6,VC7,VC8,VC9,reduceIte,reduceCtorEq,Nat.reduceEqDiff,Nat.reduceAdd,Nat.reduceMul,Nat.reduceBEq,Nat.reduceLT,Nat.reduceLeDiff,Int.reduceEq,Int.reduceLT,Int.reduceLE,Int.reduceNeg,Int.reduceToNat,Int.reduceAdd,Nat.reduceDiv,Nat.reduceSub,Nat.reduceMod,encL,ii,lA,hset,hM,show (cLif p).length=2 from rfl,show (cLif p).all V.one=true from rfl]
      refine vcg_regd_G [((16386,0),_)] (by simp only [kpOk_nil,kpOk_cons,VC0,VC1,VC2,VC3,VC4,VC5,VC6,VC7,VC8,VC9,reduceIte,reduceCtorEq,Nat.reduceEqDiff,Nat.reduceAdd,Nat.reduceMul,Nat.reduceBEq,Nat.reduceLT,Nat.reduceLeDiff,Int.reduceEq,Int.reduceLT,Int.reduceLE,Int.reduceNeg,Int.reduceToNat,Int.reduceAdd,Nat.reduceDiv,Nat.reduceSub,Nat.reduceMod,encL];exact rfl) ?_
      refine walkG_K fun K hK=>?_
      simp only [walkG_nil,walkG_mov,walkG_load,walkG_fad,walkG_un,walkG_call,walkG_mlk,walkG_app,walkG_bsl,walkG_mset,wsA_A,wsL_mp,wsL_ip,wsM_mm,wsM_im,wsW_C,wsW_D,wsF_D,kpOk_nil,kpOk_cons,VC0,VC1,VC2,VC3,VC4,VC5,VC6,VC7,VC8,VC9,reduceIte,reduceCtorEq,Nat.reduceEqDiff,Nat.reduceAdd,Nat.reduceMul,Nat.reduceBEq,Nat.reduceLT,Nat.reduceLeDiff,Int.reduceEq,Int.reduceLT,Int.reduceLE,Int.reduceNeg,Int.reduceToNat,Int.reduceAdd,Nat.reduceDiv,Nat.reduceSub,Nat.reduceMod,encL,hM,hc0,hc1,hf,hky,hej,ls_len,ls_one,Nat.mul_one,hsz,s1]
      refine ⟨by rfl,?_⟩
      rw [hK]
      clear K hK
      simp only [VC0,VC1,VC2,VC3,VC4,VC5,VC6,VC7,VC8,VC9,reduceIte,reduceCtorEq,Nat.reduceEqDiff,Nat.reduceAdd,Nat.reduceMul,Nat.reduceBEq,Nat.reduceLT,Nat.reduceLeDiff,Int.reduceEq,Int.reduceLT,Int.reduceLE,Int.reduceNeg,Int.reduceToNat,Int.reduceAdd,Nat.reduceDiv,Nat.reduceSub,Nat.reduceMod,encL]
      refine vcg_regd_G [((16386,0),_)] (by simp only [kpOk_nil,kpOk_cons,VC0,VC1,VC2,VC3,VC4,VC5,VC6,VC7,VC8,VC9,reduceIte,reduceCtorEq,Nat.reduceEqDiff,Nat.reduceAdd,Nat.reduceMul,Nat.reduceBEq,Nat.reduceLT,Nat.reduceLeDiff,Int.reduceEq,Int.reduceLT,Int.reduceLE,Int.reduceNeg,Int.reduceToNat,Int.reduceAdd,Nat.reduceDiv,Nat.reduceSub,Nat.reduceMod,encL];exact rfl) ?_
      refine walkG_K fun K hK=>?_
      simp only [walkG_nil,walkG_mov,walkG_load,walkG_fad,walkG_un,walkG_call,walkG_mlk,walkG_app,walkG_bsl,walkG_mset,wsA_A,wsL_mp,wsL_ip,wsM_mm,wsM_im,wsW_C,wsW_D,wsF_D,kpOk_nil,kpOk_cons,VC0,VC1,VC2,VC3,VC4,VC5,VC6,VC7,VC8,VC9,reduceIte,reduceCtorEq,Nat.reduceEqDiff,Nat.reduceAdd,Nat.reduceMul,Nat.reduceBEq,Nat.reduceLT,Nat.reduceLeDiff,Int.reduceEq,Int.reduceLT,Int.reduceLE,Int.reduceNeg,Int.reduceToNat,Int.reduceAdd,Nat.reduceDiv,Nat.reduceSub,Nat.reduceMod,encL,hM,hc0,hc1,f2,k2,ls_len,ls_one,Nat.mul_one,hsz2,s2,hsc,List.length_append]
      refine ⟨by rfl,?_⟩
      rw [hK]
      clear K hK
      simp only [VC0,VC1,VC2,VC3,VC4,VC5,VC6,VC7,VC8,VC9,reduceIte,reduceCtorEq,Nat.reduceEqDiff,Nat.reduceAdd,Nat.reduceMul,Nat.reduceBEq,Nat.reduceLT,Nat.reduceLeDiff,Int.reduceEq,Int.reduceLT,Int.reduceLE,Int.reduceNeg,Int.reduceToNat,Int.reduceAdd,Nat.reduceDiv,Nat.reduceSub,Nat.reduceMod,encL,i2]
      refine backTo_of (i+1,_) hi' (by simp only [];omega) (ent_of _ [] rfl rfl ?_)
      simp only [VC0,VC1,VC2,VC3,VC4,VC5,VC6,VC7,VC8,VC9,reduceIte,reduceCtorEq,Nat.reduceEqDiff,Nat.reduceAdd,Nat.reduceMul,Nat.reduceBEq,Nat.reduceLT,Nat.reduceLeDiff,Int.reduceEq,Int.reduceLT,Int.reduceLE,Int.reduceNeg,Int.reduceToNat,Int.reduceAdd,Nat.reduceDiv,Nat.reduceSub,Nat.reduceMod,encL,lf_imv]
      have hj0:(enO ov)[j]'(by rw [enO_len];exact hj)=(.str p.1,ov[j].2.length,ov[j].2.flatMap cS):=by rw [enO_at hj,hj1]
      have he:enO (ovS (F.lives.take (i+1)))=(enO ov).set j (((enO ov)[j]'(by rw [enO_len];exact hj)).1,ov[j].2.length+(p.2.length+1),ov[j].2.flatMap cS++p.2.flatMap cS++[.str p.1]):=by
        rw [hov,hj0]
        simp only [addO,hx,enO,List.map_set,List.getD_eq_getElem?_getD,List.getElem?_eq_getElem hj,Option.getD_some,List.length_append,List.length_singleton,List.flatMap_append,List.append_assoc]
        rfl
      rw [he]
      refine mapR_set (d:=7) (g:=2) (by rw [enO_len];exact hj) ?_ ?_ (fun u hu hne=>?_) (enO_im ov) ?_ (by decide) (fun h=>h) (fun _ _ h=>h) trivial
      · rw [hj0,hM];rfl
      · simp only [VC0,VC1,VC2,VC3,VC4,VC5,VC6,VC7,VC8,VC9,reduceIte,reduceCtorEq,Nat.reduceEqDiff,Nat.reduceAdd,Nat.reduceMul,Nat.reduceBEq,Nat.reduceLT,Nat.reduceLeDiff,Int.reduceEq,Int.reduceLT,Int.reduceLE,Int.reduceNeg,Int.reduceToNat,Int.reduceAdd,Nat.reduceDiv,Nat.reduceSub,Nat.reduceMod,encL]
      · have hne2:¬ ((4398046511111,u):Key)=(4398046511111,j):=by intro e;injection e with _ e;exact hne e
        have hu2:(enO ov)[u]? = some ((enO ov)[u]):=List.getElem?_eq_getElem hu
        simp only [VC0,VC1,VC2,VC3,VC4,VC5,VC6,VC7,VC8,VC9,reduceIte,reduceCtorEq,Nat.reduceEqDiff,Nat.reduceAdd,Nat.reduceMul,Nat.reduceBEq,Nat.reduceLT,Nat.reduceLeDiff,Int.reduceEq,Int.reduceLT,Int.reduceLE,Int.reduceNeg,Int.reduceToNat,Int.reduceAdd,Nat.reduceDiv,Nat.reduceSub,Nat.reduceMod,encL,hne2,hu2]
      · simp only [List.all_append,ls_imv,Bool.and_self,Bool.true_and];rfl
    | none =>
      have hf:findK (.str p.1) (mapV 7 0 (enO ov))=none:=by rw [find_mapV,ix_en,hx];rfl
      have hsz:p.2.length*16≤140737488355328∧p.2.length≤4611686018427387904:=by omega
      have hsz2:(p.2.length+1)*16≤140737488355328∧p.2.length+1≤4611686018427387904:=by omega
      have s1:=fun v=>setK_no (v:=v) hf
      have f2:=fun v=>findK_app (v:=v) hkk hf
      have s2:=fun v v'=>setK_app (v:=v) (v':=v') hkk hf
      have k2:∀ v,((mapV 7 0 (enO ov)++[(V.str p.1,v)]).all fun e=>keyV .str e.1)=true:=fun v=>by rw [List.all_append,hky];rfl
      generalize hM:mapV 7 0 (enO ov)=M at hky hf s1 f2 s2 k2
      simp only [VC0,VC1,VC2,VC3,VC4,VC5,VC6,VC7,VC8,VC9,reduceIte,reduceCtorEq,Nat.reduceEqDiff,Nat.reduceAdd,Nat.reduceMul,Nat.reduceBEq,Nat.reduceLT,Nat.reduceLeDiff,Int.reduceEq,Int.reduceLT,Int.reduceLE,Int.reduceNeg,Int.reduceToNat,Int.reduceAdd,Nat.reduceDiv,Nat.reduceSub,Nat.reduceMod,encL,ii,lA,hset,hM,show (cLif p).length=2 from rfl,show (cLif p).all V.one=true from rfl]
      refine vcg_regd_G [((16386,0),_)] (by simp only [kpOk_nil,kpOk_cons,VC0,VC1,VC2,VC3,VC4,VC5,VC6,VC7,VC8,VC9,reduceIte,reduceCtorEq,Nat.reduceEqDiff,Nat.reduceAdd,Nat.reduceMul,Nat.reduceBEq,Nat.reduceLT,Nat.reduceLeDiff,Int.reduceEq,Int.reduceLT,Int.reduceLE,Int.reduceNeg,Int.reduceToNat,Int.reduceAdd,Nat.reduceDiv,Nat.reduceSub,Nat.reduceMod,encL];exact rfl) ?_
      refine walkG_K fun K hK=>?_
      simp only [walkG_nil,walkG_mov,walkG_load,walkG_fad,walkG_un,walkG_call,walkG_mlk,walkG_app,walkG_bsl,walkG_mset,wsA_A,wsL_mp,wsL_ip,wsM_mm,wsM_im,wsW_C,wsW_D,wsF_D,kpOk_nil,kpOk_cons,VC0,VC1,VC2,VC3,VC4,VC5,VC6,VC7,VC8,VC9,reduceIte,reduceCtorEq,Nat.reduceEqDiff,Nat.reduceAdd,Nat.reduceMul,Nat.reduceBEq,Nat.reduceLT,Nat.reduceLeDiff,Int.reduceEq,Int.reduceLT,Int.reduceLE,Int.reduceNeg,Int.reduceToNat,Int.reduceAdd,Nat.reduceDiv,Nat.reduceSub,Nat.reduceMod,encL,hM,hc0,hc1,hf,lkV,hky,ls_len,ls_one,Nat.mul_one,hsz,s1]
      refine ⟨by rfl,?_⟩
      rw [hK]
      clear K hK
      simp only [VC0,VC1,VC2,VC3,VC4,VC5,VC6,VC7,VC8,VC9,reduceIte,reduceCtorEq,Nat.reduceEqDiff,Nat.reduceAdd,Nat.reduceMul,Nat.reduceBEq,Nat.reduceLT,Nat.reduceLeDiff,Int.reduceEq,Int.reduceLT,Int.reduceLE,Int.reduceNeg,Int.reduceToNat,Int.reduceAdd,Nat.reduceDiv,Nat.reduceSub,Nat.reduceMod,encL]
      refine vcg_regd_G [((16386,0),_)] (by simp only [kpOk_nil,kpOk_cons,VC0,VC1,VC2,VC3,VC4,VC5,VC6,VC7,VC8,VC9,reduceIte,reduceCtorEq,Nat.reduceEqDiff,Nat.reduceAdd,Nat.reduceMul,Nat.reduceBEq,Nat.reduceLT,Nat.reduceLeDiff,Int.reduceEq,Int.reduceLT,Int.reduceLE,Int.reduceNeg,Int.reduceToNat,Int.reduceAdd,Nat.reduceDiv,Nat.reduceSub,Nat.reduceMod,encL];exact rfl) ?_
      refine walkG_K fun K hK=>?_
      simp only [walkG_nil,walkG_mov,walkG_load,walkG_fad,walkG_un,walkG_call,walkG_mlk,walkG_app,walkG_bsl,walkG_mset,wsA_A,wsL_mp,wsL_ip,wsM_mm,wsM_im,wsW_C,wsW_D,wsF_D,kpOk_nil,kpOk_cons,VC0,VC1,VC2,VC3,VC4,VC5,VC6,VC7,VC8,VC9,reduceIte,reduceCtorEq,Nat.reduceEqDiff,Nat.reduceAdd,Nat.reduceMul,Nat.reduceBEq,Nat.reduceLT,Nat.reduceLeDiff,Int.reduceEq,Int.reduceLT,Int.reduceLE,Int.reduceNeg,Int.reduceToNat,Int.reduceAdd,Nat.reduceDiv,Nat.reduceSub,Nat.reduceMod,encL,hM,hc0,hc1,f2,k2,ls_len,ls_one,Nat.mul_one,hsz2,s2,hsc,List.length_append]
      refine ⟨by rfl,?_⟩
      rw [hK]
      clear K hK
      simp only [VC0,VC1,VC2,VC3,VC4,VC5,VC6,VC7,VC8,VC9,reduceIte,reduceCtorEq,Nat.reduceEqDiff,Nat.reduceAdd,Nat.reduceMul,Nat.reduceBEq,Nat.reduceLT,Nat.reduceLeDiff,Int.reduceEq,Int.reduceLT,Int.reduceLE,Int.reduceNeg,Int.reduceToNat,Int.reduceAdd,Nat.reduceDiv,Nat.reduceSub,Nat.reduceMod,encL,i2]
      refine backTo_of (i+1,_) hi' (by simp only [];omega) (ent_of _ [] rfl rfl ?_)
      simp only [VC0,VC1,VC2,VC3,VC4,VC5,VC6,VC7,VC8,VC9,reduceIte,reduceCtorEq,Nat.reduceEqDiff,Nat.reduceAdd,Nat.reduceMul,Nat.reduceBEq,Nat.reduceLT,Nat.reduceLeDiff,Int.reduceEq,Int.reduceLT,Int.reduceLE,Int.reduceNeg,Int.reduceToNat,Int.reduceAdd,Nat.reduceDiv,Nat.reduceSub,Nat.reduceMod,encL,lf_imv]
      have he:enO (ovS (F.lives.take (i+1)))=enO ov++[(.str p.1,p.2.length+1,p.2.flatMap cS++[.str p.1])]:=by
        rw [hov]
        simp only [addO,hx,enO,List.map_append,List.map_cons,List.map_nil,List.length_append,List.length_singleton,List.flatMap_append]
        rfl
      rw [he]
      refine mapR_snoc (d:=7) (g:=1) (k2:=(20489,0)) ?_ ?_ (by decide) (fun u hu=>?_) (enO_im ov) rfl ?_ (by decide) (fun h=>h) (fun _ _ h=>h) (fun h=>h) trivial
      · rw [hM];rfl
      · simp only [VC0,VC1,VC2,VC3,VC4,VC5,VC6,VC7,VC8,VC9,reduceIte,reduceCtorEq,Nat.reduceEqDiff,Nat.reduceAdd,Nat.reduceMul,Nat.reduceBEq,Nat.reduceLT,Nat.reduceLeDiff,Int.reduceEq,Int.reduceLT,Int.reduceLE,Int.reduceNeg,Int.reduceToNat,Int.reduceAdd,Nat.reduceDiv,Nat.reduceSub,Nat.reduceMod,encL]
      · have hu2:(enO ov)[u]? = some ((enO ov)[u]):=List.getElem?_eq_getElem hu
        simp only [VC0,VC1,VC2,VC3,VC4,VC5,VC6,VC7,VC8,VC9,reduceIte,reduceCtorEq,Nat.reduceEqDiff,Nat.reduceAdd,Nat.reduceMul,Nat.reduceBEq,Nat.reduceLT,Nat.reduceLeDiff,Int.reduceEq,Int.reduceLT,Int.reduceLE,Int.reduceNeg,Int.reduceToNat,Int.reduceAdd,Nat.reduceDiv,Nat.reduceSub,Nat.reduceMod,encL,hu2]
      · simp only [List.all_append,ls_imv,Bool.and_self,Bool.true_and];rfl
  obtain rfl:i=F.lives.length:=by omega
  rw [List.take_length]
  have hlk:=fun x=>len_lk (m:=64) F.lives hO x
  have hle:=len_ov F.lives
  obtain ⟨ov,hov⟩:∃ ov,ov=ovS F.lives:=⟨_,rfl⟩
  rw [← hov]
  rw [← hov] at hle
  have hky:((mapV 7 0 (enO ov)).all fun e=>keyV .str e.1)=true:=by rw [mapV_keys];exact enO_keys ov
  have hrow:∀ (x:ByteArray) (j:Nat),ixO x ov=some j→(∃ hj:j<ov.length,lkO ov x=ov[j].2)∧findK (.str x) (mapV 7 0 (enO ov))=some (j,.msl (4398046511111,j) 0 0 (lkO ov x).length) ∧
      (enO ov)[j]? = some (.str x,(lkO ov x).length,(lkO ov x).flatMap cS):=by
    intro x j hx
    obtain ⟨hj,hek⟩:=ixK_lt (es:=enO ov) (k:=.str x) (by rw [ix_en];exact hx)
    rw [enO_len] at hj
    have hl:lkO ov x=ov[j].2:=by simp only [lkO,hx,List.getD_eq_getElem?_getD,List.getElem?_eq_getElem hj,Option.getD_some]
    rw [enO_at hj,eqK_str] at hek
    have hej:(enO ov)[j]? = some (.str x,(lkO ov x).length,(lkO ov x).flatMap cS):=by rw [List.getElem?_eq_getElem (by rw [enO_len];exact hj),enO_at hj,hl,of_decide_eq_true hek]
    refine ⟨⟨hj,hl⟩,?_,hej⟩
    rw [find_mapV,ix_en,hx]
    simp only [Option.map_some,List.getD_eq_getElem?_getD,hej,Option.getD_some,Nat.zero_add]
  have hno:∀ x:ByteArray,ixO x ov=none→lkO ov x=[]∧findK (.str x) (mapV 7 0 (enO ov))=none:=fun x hx=>⟨by simp only [lkO,hx],by rw [find_mapV,ix_en,hx];rfl⟩
  have fls:∀ {x:ByteArray},lkO ov x=[]→¬ hereL F.lives x:=fun {x} h h2=>(here_lk.1 h2) (hov▸h)
  have bad:¬ (hereL F.lives a∧hereL F.lives b)→overB F.lives a b=false:=fun h=>by rw [← overB_eq (q:=false)];exact ⟨fun h=>(by cases h),fun h2=>absurd ⟨h2.1,h2.2.1⟩ h⟩
  have pos:∀ {x:ByteArray},lkO ov x≠[]→decide (((lkO ov x).length:Int)=0)=false:=fun {x} h=>decide_eq_false fun e=>h (List.eq_nil_of_length_eq_zero (by omega))
  cases hxa:ixO a ov with
  | none =>
    obtain ⟨e1,e2⟩:=hno a hxa
    have hb:=bad fun h=>fls e1 h.1
    simp only [VC0,VC1,VC2,VC3,VC4,VC5,VC6,VC7,VC8,VC9,reduceIte,reduceCtorEq,Nat.reduceEqDiff,Nat.reduceAdd,Nat.reduceMul,Nat.reduceBEq,Nat.reduceLT,Nat.reduceLeDiff,Int.reduceEq,Int.reduceLT,Int.reduceLE,Int.reduceNeg,Int.reduceToNat,Int.reduceAdd,Nat.reduceDiv,Nat.reduceSub,Nat.reduceMod,encL,hky,e2,hb]
  | some ja =>
  obtain ⟨⟨hja,_⟩,fa,ea⟩:=hrow a ja hxa
  by_cases na:lkO ov a=[]
  · have hb:=bad fun h=>fls na h.1
    simp only [VC0,VC1,VC2,VC3,VC4,VC5,VC6,VC7,VC8,VC9,reduceIte,reduceCtorEq,Nat.reduceEqDiff,Nat.reduceAdd,Nat.reduceMul,Nat.reduceBEq,Nat.reduceLT,Nat.reduceLeDiff,Int.reduceEq,Int.reduceLT,Int.reduceLE,Int.reduceNeg,Int.reduceToNat,Int.reduceAdd,Nat.reduceDiv,Nat.reduceSub,Nat.reduceMod,encL,hky,fa,na,hb]
  cases hxb:ixO b ov with
  | none =>
    obtain ⟨e1,e2⟩:=hno b hxb
    have hb:=bad fun h=>fls e1 h.2
    simp only [VC0,VC1,VC2,VC3,VC4,VC5,VC6,VC7,VC8,VC9,reduceIte,reduceCtorEq,Nat.reduceEqDiff,Nat.reduceAdd,Nat.reduceMul,Nat.reduceBEq,Nat.reduceLT,Nat.reduceLeDiff,Int.reduceEq,Int.reduceLT,Int.reduceLE,Int.reduceNeg,Int.reduceToNat,Int.reduceAdd,Nat.reduceDiv,Nat.reduceSub,Nat.reduceMod,encL,hky,fa,pos na,e2,hb]
  | some jb =>
  obtain ⟨⟨hjb,_⟩,fb,eb⟩:=hrow b jb hxb
  by_cases nb:lkO ov b=[]
  · have hb:=bad fun h=>fls nb h.2
    simp only [VC0,VC1,VC2,VC3,VC4,VC5,VC6,VC7,VC8,VC9,reduceIte,reduceCtorEq,Nat.reduceEqDiff,Nat.reduceAdd,Nat.reduceMul,Nat.reduceBEq,Nat.reduceLT,Nat.reduceLeDiff,Int.reduceEq,Int.reduceLT,Int.reduceLE,Int.reduceNeg,Int.reduceToNat,Int.reduceAdd,Nat.reduceDiv,Nat.reduceSub,Nat.reduceMod,encL,hky,fa,pos na,fb,nb,hb]
  have hN:=univ_len F.lives a 64 hO
  have hs0:setCells [V.str ⟨#[]⟩] 0 [V.str a]=[a].flatMap cS:=rfl
  have hse0:([(V.str a,V.int .i64 1)]:List (V × V))=seE [a]:=rfl
  simp only [VC0,VC1,VC2,VC3,VC4,VC5,VC6,VC7,VC8,VC9,reduceIte,reduceCtorEq,Nat.reduceEqDiff,Nat.reduceAdd,Nat.reduceMul,Nat.reduceBEq,Nat.reduceLT,Nat.reduceLeDiff,Int.reduceEq,Int.reduceLT,Int.reduceLE,Int.reduceNeg,Int.reduceToNat,Int.reduceAdd,Nat.reduceDiv,Nat.reduceSub,Nat.reduceMod,encL,hky,fa,pos na,fb,pos nb,hs0]
  obtain ⟨fl,hfl⟩:∃ fl:List Key,fl=(2199023255559,0)::(List.range ov.length).map fun i=>(4398046511111,i):=⟨_,rfl⟩
  have hfM:((2199023255559,0):Key)∈fl:=by rw [hfl];exact List.mem_cons_self ..
  have hfR:∀ i,i<ov.length→((4398046511111,i):Key)∈fl:=fun i hi=>by rw [hfl];exact List.mem_cons_of_mem _ (List.mem_map.2 ⟨i,List.mem_range.2 hi,rfl⟩)
  have hfn:∀ k:Key,k.1<2199023255552→k∉fl:=fun k hk h=>by
    rw [hfl] at h
    rcases List.mem_cons.1 h with rfl|h
    · simp at hk
    · obtain ⟨i,_,rfl⟩:=List.mem_map.1 h
      simp at hk
  have hfP:fl.all (fun k=>decide (k.1<PK))=true:=by
    rw [List.all_eq_true]
    intro k h
    rw [hfl] at h
    rcases List.mem_cons.1 h with rfl|h
    · exact of_decide_eq_true (by decide)
    · obtain ⟨i,_,rfl⟩:=List.mem_map.1 h
      exact decide_eq_true (by show (4398046511111:Nat)<PK;unfold PK;decide)
  have f1:=hfn (40960,0) (by decide)
  have f2:=hfn (45057,0) (by decide)
  clear hfl hfn
  refine loop_vcg (ι:=(List ByteArray × List ByteArray) × (Nat→Nat)) (fun y=>stO [(2,.val (.str b)),(7,.frz (.im (imO ov))),(10,.mapS (seE y.1.1)),(11,.own 1 y.1.2.length (y.1.2.flatMap cS))] y.2)
    (fun y=>InvO F.lives a y.1.1 y.1.2∧y.1.2.length≤y.1.1.length) (fun y=>2*((univL F.lives a).length - y.1.1.length)+y.1.2.length) (([a],[a]),_) ⟨InvO.start _ _,Nat.le_refl _⟩ (ent_of _ fl rfl hfP ?_) ?_
  · simp only [VC0,VC1,VC2,VC3,VC4,VC5,VC6,VC7,VC8,VC9,reduceIte,reduceCtorEq,Nat.reduceEqDiff,Nat.reduceAdd,Nat.reduceMul,Nat.reduceBEq,Nat.reduceLT,Nat.reduceLeDiff,Int.reduceEq,Int.reduceLT,Int.reduceLE,Int.reduceNeg,Int.reduceToNat,Int.reduceAdd,Nat.reduceDiv,Nat.reduceSub,Nat.reduceMod,encL,ls_imv,f1,f2]
    have hsk:setK [] (V.str a) (V.int .i64 1)=seE [a]:=rfl
    refine ⟨?_,by rw [hsk];exact seE_snap _ _,by rw [hsk];exact seE_imv _⟩
    rw [if_pos hfM]
    refine congrArg V.im (snap_mapW (d:=7) (D:=6) fun u hu=>?_)
    rw [enO_len] at hu
    have hu2:(enO ov)[u]? = some ((enO ov)[u]'(by rw [enO_len];exact hu)):=List.getElem?_eq_getElem (by rw [enO_len];exact hu)
    refine ⟨?_,by rw [enO_at hu,ls_len],by rw [enO_at hu];exact ls_snap _ _ _,by rw [enO_at hu];rfl⟩
    simp only [hfz,if_pos (hfR u hu),VC0,VC1,VC2,VC3,VC4,VC5,VC6,VC7,VC8,VC9,reduceIte,reduceCtorEq,Nat.reduceEqDiff,Nat.reduceAdd,Nat.reduceMul,Nat.reduceBEq,Nat.reduceLT,Nat.reduceLeDiff,Int.reduceEq,Int.reduceLT,Int.reduceLE,Int.reduceNeg,Int.reduceToNat,Int.reduceAdd,Nat.reduceDiv,Nat.reduceSub,Nat.reduceMod,encL,hu2]
  clear hky hrow hno fls bad pos fa fb ea eb f1 f2 hfM hfR hfP
  rintro ⟨⟨S,W⟩,c⟩ ⟨hI,hW⟩
  have hI:InvO F.lives a S W:=hI
  have hW:W.length≤S.length:=hW
  have hSl:=hI.len
  simp only [VC0,VC1,VC2,VC3,VC4,VC5,VC6,VC7,VC8,VC9,reduceIte,reduceCtorEq,Nat.reduceEqDiff,Nat.reduceAdd,Nat.reduceMul,Nat.reduceBEq,Nat.reduceLT,Nat.reduceLeDiff,Int.reduceEq,Int.reduceLT,Int.reduceLE,Int.reduceNeg,Int.reduceToNat,Int.reduceAdd,Nat.reduceDiv,Nat.reduceSub,Nat.reduceMod,encL]
  refine condD_of (fun h=>?_) (fun h=>?_)
  case refine_2 =>
    have hW0:W=[]:=List.eq_nil_of_length_eq_zero (by omega)
    subst hW0
    have hb:overB F.lives a b=memB b S:=(overB_eq (memB_iff.trans (hI.end.trans ⟨fun hb=>⟨?_,?_,hb⟩,fun hb=>hb.2.2⟩))).symm
    rcases find_seE b S with ⟨j,h1,h2⟩|⟨h1,h2⟩
    · simp only [VC0,VC1,VC2,VC3,VC4,VC5,VC6,VC7,VC8,VC9,reduceIte,reduceCtorEq,Nat.reduceEqDiff,Nat.reduceAdd,Nat.reduceMul,Nat.reduceBEq,Nat.reduceLT,Nat.reduceLeDiff,Int.reduceEq,Int.reduceLT,Int.reduceLE,Int.reduceNeg,Int.reduceToNat,Int.reduceAdd,Nat.reduceDiv,Nat.reduceSub,Nat.reduceMod,encL,seE_keys,h1,hb,memB_t h2]
    · simp only [VC0,VC1,VC2,VC3,VC4,VC5,VC6,VC7,VC8,VC9,reduceIte,reduceCtorEq,Nat.reduceEqDiff,Nat.reduceAdd,Nat.reduceMul,Nat.reduceBEq,Nat.reduceLT,Nat.reduceLeDiff,Int.reduceEq,Int.reduceLT,Int.reduceLE,Int.reduceNeg,Int.reduceToNat,Int.reduceAdd,Nat.reduceDiv,Nat.reduceSub,Nat.reduceMod,encL,seE_keys,h1,hb,memB_f h2]
    · exact here_lk.2 (hov▸na)
    · exact here_lk.2 (hov▸nb)
  obtain ⟨W0,x,rfl⟩:∃ W0 x,W=W0++[x]:=by
    rcases List.eq_nil_or_concat W with e|⟨W0,x,e⟩
    · rw [e] at h;simp at h
    · exact ⟨W0,x,by simpa using e⟩
  have hx0:ldV false 1 ((W0++[x]).flatMap cS) W0.length=some (.str x):=by
    rw [st_ld (by simp)];simp
  have hx1:((W0++[x]).flatMap cS).take W0.length=W0.flatMap cS:=by
    rw [List.flatMap_append,List.take_append_of_le_length (by rw [ls_len];exact Nat.le_refl _),List.take_of_length_le (by rw [ls_len];exact Nat.le_refl _)]
  have w1:InI64 ((W0.length:Int)+1)∧InI64 (W0.length:Int):=by simp only [List.length_append,List.length_singleton] at hW;unfold InI64;omega
  have w2:0≤(W0.length:Int)∧(W0.length:Int)<(W0.length:Int)+1∧(W0.length:Int)≤(W0.length:Int)+1:=by omega
  have hlx:(lkO ov x).length≤4160:=by have:=hlk x;rw [← hov] at this;omega
  obtain ⟨vx,hlv,hv,hll,hvi⟩:∃ vx,lkV false V.e0 (findK (V.str x) (imO ov))=vx∧(lkO ov x=[]∨vx = .sl (lkO ov x).length ((lkO ov x).flatMap cS))∧llen false vx=LRes.A True (.int .i64 ((lkO ov x).length:Nat))∧imV 8 vx=true:=by
    rcases find_imO x ov with ⟨h1,h2⟩|⟨j,h1⟩
    · exact ⟨.e0,by rw [h1];rfl,.inl h2,by rw [h2];rfl,rfl⟩
    · exact ⟨_,by rw [h1];rfl,.inr rfl,rfl,rfl⟩
  have hI0:=hI.pop
  simp only [List.length_append,List.length_singleton] at hW hSl
  simp only [VC0,VC1,VC2,VC3,VC4,VC5,VC6,VC7,VC8,VC9,reduceIte,reduceCtorEq,Nat.reduceEqDiff,Nat.reduceAdd,Nat.reduceMul,Nat.reduceBEq,Nat.reduceLT,Nat.reduceLeDiff,Int.reduceEq,Int.reduceLT,Int.reduceLE,Int.reduceNeg,Int.reduceToNat,Int.reduceAdd,Nat.reduceDiv,Nat.reduceSub,Nat.reduceMod,encL,List.length_append,List.length_singleton,w1,w2,hx0,imO_keys,hlv,hll]
  refine loop_vcg (ι:=((List ByteArray × List ByteArray) × Nat) × (Nat→Nat)) (fun y=>stO [(2,.val (.str b)),(7,.frz (.im (imO ov))),(10,.mapS (seE y.1.1.1)),(11,.own 1 y.1.1.2.length (y.1.1.2.flatMap cS)),(78,.val vx),(79,.val (.int .i64 (lkO ov x).length)),(80,.val (.int .i64 y.1.2))] y.2)
    (fun y=>InvI F.lives a x y.1.2 y.1.1.1 y.1.1.2∧y.1.2≤(lkO ov x).length∧y.1.1.2.length+1≤y.1.1.1.length+1∧2*((univL F.lives a).length - y.1.1.1.length)+y.1.1.2.length≤2*((univL F.lives a).length - S.length)+W0.length)
    (fun y=>(lkO ov x).length - y.1.2) (((S,W0),0),_) ⟨hI0,Nat.zero_le _,by simp only [];omega,Nat.le_refl _⟩
    ((Ent.cut (key:=(2199023255563,0)) (g:=0) (esz:=1) (cs:=(W0++[x]).flatMap cS) W0.length (by rfl)).trans (ent_of _ [] rfl rfl ?_)) ?_
  · simp only [VC0,VC1,VC2,VC3,VC4,VC5,VC6,VC7,VC8,VC9,reduceIte,reduceCtorEq,Nat.reduceEqDiff,Nat.reduceAdd,Nat.reduceMul,Nat.reduceBEq,Nat.reduceLT,Nat.reduceLeDiff,Int.reduceEq,Int.reduceLT,Int.reduceLE,Int.reduceNeg,Int.reduceToNat,Int.reduceAdd,Nat.reduceDiv,Nat.reduceSub,Nat.reduceMod,encL,hx1,ls_imv,hvi,seE_snap,seE_imv]
  rintro ⟨⟨⟨S',W'⟩,k⟩,c⟩ ⟨hI,hk,hW',hm⟩
  have hI:InvI F.lives a x k S' W':=hI
  have hk:k≤(lkO ov x).length:=hk
  have hW':W'.length+1≤S'.length+1:=hW'
  have hm:2*((univL F.lives a).length - S'.length)+W'.length≤2*((univL F.lives a).length - S.length)+W0.length:=hm
  have hSl':=hI.len
  simp only [VC0,VC1,VC2,VC3,VC4,VC5,VC6,VC7,VC8,VC9,reduceIte,reduceCtorEq,Nat.reduceEqDiff,Nat.reduceAdd,Nat.reduceMul,Nat.reduceBEq,Nat.reduceLT,Nat.reduceLeDiff,Int.reduceEq,Int.reduceLT,Int.reduceLE,Int.reduceNeg,Int.reduceToNat,Int.reduceAdd,Nat.reduceDiv,Nat.reduceSub,Nat.reduceMod,encL]
  refine condD_of (fun h=>?_) (fun h=>?_)
  case refine_2 =>
    simp only [VC0,VC1,VC2,VC3,VC4,VC5,VC6,VC7,VC8,VC9,reduceIte,reduceCtorEq,Nat.reduceEqDiff,Nat.reduceAdd,Nat.reduceMul,Nat.reduceBEq,Nat.reduceLT,Nat.reduceLeDiff,Int.reduceEq,Int.reduceLT,Int.reduceLE,Int.reduceNeg,Int.reduceToNat,Int.reduceAdd,Nat.reduceDiv,Nat.reduceSub,Nat.reduceMod,encL]
    refine backTo_of ((S',W'),_) ⟨hI.end (by rw [← hov];omega),by simp only [];omega⟩ (by simp only [];omega) (ent_of _ [] rfl rfl ?_)
    simp only [VC0,VC1,VC2,VC3,VC4,VC5,VC6,VC7,VC8,VC9,reduceIte,reduceCtorEq,Nat.reduceEqDiff,Nat.reduceAdd,Nat.reduceMul,Nat.reduceBEq,Nat.reduceLT,Nat.reduceLeDiff,Int.reduceEq,Int.reduceLT,Int.reduceLE,Int.reduceNeg,Int.reduceToNat,Int.reduceAdd,Nat.reduceDiv,Nat.reduceSub,Nat.reduceMod,encL,ls_imv,hvi,seE_snap,seE_imv]
  have hk':k<(lkO ov x).length:=by omega
  rcases hv with hv|hv
  · rw [hv] at hk';cases hk'
  obtain ⟨y,hy⟩:∃ y,y=(lkO ov x)[k]:=⟨_,rfl⟩
  have hyk:(lkO (ovS F.lives) x)[k]? = some y:=by rw [← hov,hy];exact List.getElem?_eq_getElem hk'
  have ly:=st_ld hk'
  rw [← hy] at ly
  have kk:0≤(k:Int)∧(k:Int)<(lkO ov x).length:=by omega
  have k2:InI64 ((k:Int)+1):=by unfold InI64;omega
  subst hv
  rcases find_seE y S' with ⟨j,h1,h2⟩|⟨h1,h2⟩
  · simp only [VC0,VC1,VC2,VC3,VC4,VC5,VC6,VC7,VC8,VC9,reduceIte,reduceCtorEq,Nat.reduceEqDiff,Nat.reduceAdd,Nat.reduceMul,Nat.reduceBEq,Nat.reduceLT,Nat.reduceLeDiff,Int.reduceEq,Int.reduceLT,Int.reduceLE,Int.reduceNeg,Int.reduceToNat,Int.reduceAdd,Nat.reduceDiv,Nat.reduceSub,Nat.reduceMod,encL,kk,ly,seE_keys,h1,k2]
    refine backTo_of (((S',W'),k+1),_) ⟨hI.old hyk h2,hk',by simp only [];omega,hm⟩ (by simp only [];omega) (ent_of _ [] rfl rfl ?_)
    simp only [VC0,VC1,VC2,VC3,VC4,VC5,VC6,VC7,VC8,VC9,reduceIte,reduceCtorEq,Nat.reduceEqDiff,Nat.reduceAdd,Nat.reduceMul,Nat.reduceBEq,Nat.reduceLT,Nat.reduceLeDiff,Int.reduceEq,Int.reduceLT,Int.reduceLE,Int.reduceNeg,Int.reduceToNat,Int.reduceAdd,Nat.reduceDiv,Nat.reduceSub,Nat.reduceMod,encL,ls_imv,hvi,seE_snap,seE_imv]
  · have hA:=hI.new hyk h2
    have hAl:=hA.len
    rw [List.length_append,List.length_singleton] at hAl
    have hsc:setCells [V.str ⟨#[]⟩] 0 [V.str y]=[V.str y]:=rfl
    have hsz:(W'.length+1)*16≤140737488355328∧W'.length+1≤4611686018427387904:=by omega
    have s1:=setK_no (v:=.int .i64 1) h1
    rw [seE_app] at s1
    simp only [VC0,VC1,VC2,VC3,VC4,VC5,VC6,VC7,VC8,VC9,reduceIte,reduceCtorEq,Nat.reduceEqDiff,Nat.reduceAdd,Nat.reduceMul,Nat.reduceBEq,Nat.reduceLT,Nat.reduceLeDiff,Int.reduceEq,Int.reduceLT,Int.reduceLE,Int.reduceNeg,Int.reduceToNat,Int.reduceAdd,Nat.reduceDiv,Nat.reduceSub,Nat.reduceMod,encL,kk,ly,seE_keys,h1,lkV,k2,hsc,s1,ls_len,hsz]
    refine backTo_of (((S' ++ [y],W' ++ [y]),k+1),_) ⟨hA,hk',by simp only [List.length_append,List.length_singleton];omega,by simp only [List.length_append,List.length_singleton];omega⟩ (by simp only [];omega) (ent_of _ [] rfl rfl ?_)
    simp only [VC0,VC1,VC2,VC3,VC4,VC5,VC6,VC7,VC8,VC9,reduceIte,reduceCtorEq,Nat.reduceEqDiff,Nat.reduceAdd,Nat.reduceMul,Nat.reduceBEq,Nat.reduceLT,Nat.reduceLeDiff,Int.reduceEq,Int.reduceLT,Int.reduceLE,Int.reduceNeg,Int.reduceToNat,Int.reduceAdd,Nat.reduceDiv,Nat.reduceSub,Nat.reduceMod,encL,ls_imv,hvi,seE_snap,seE_imv,List.length_append,List.length_singleton,ls_app]
end Go.Proofs.YtlnphjjhfgghkaaGreatDoor

namespace Go.Lg
open Go Go.RowKit
def fnM (G:List FN):List (V × V):=G.map fun s=>(.str s.name,.agg s.cells)
def lkN:List FN→ByteArray→Option FN
  | [],_=>none
  | s::r,x=>if x=s.name then some s else lkN r x
theorem fnM_keys (M:List FN):((fnM M).all fun e=>keyV .str e.1)=true:=by
  rw [List.all_eq_true]
  intro e he
  obtain ⟨p,_,rfl⟩:=List.mem_map.1 he
  rfl
theorem find_fn (x:ByteArray):∀ M:List FN,(findK (.str x) (fnM M)=none∧lkN M x=none)∨∃ j s,findK (.str x) (fnM M)=some (j,.agg s.cells)∧lkN M x=some s∧s∈M∧s.name=x
  | []=>.inl ⟨rfl,rfl⟩
  | p::r=>by
    have e1:fnM (p::r)=(.str p.name,.agg p.cells)::fnM r:=rfl
    rw [e1,lkN]
    simp only [findK,eqK_str]
    by_cases e:x=p.name
    · exact .inr ⟨0,p,by simp [e],by rw [if_pos e],List.mem_cons_self ..,e.symm⟩
    · rw [if_neg e]
      rcases find_fn x r with ⟨h1,h2⟩|⟨j,s,h1,h2,h3,h4⟩
      · exact .inl ⟨by simp [e,h1],h2⟩
      · exact .inr ⟨j+1,s,by simp [e,h1],h2,List.mem_cons_of_mem _ h3,h4⟩
def inW (p:Prop) (v:V):Prop:=∃ n:Int,v = .int .i64 n∧(n=0→p)
theorem inW_flat {p:Prop} {v:V} (h:inW p v):flat 4 v=true:=by obtain ⟨n,rfl,_⟩:=h;rfl
theorem inW_no {p:Prop} {n:Int} (h:n≠0):inW p (.int .i64 n):=⟨n,rfl,fun e=>absurd e h⟩
theorem inW_t {p:Prop} {n:Int} (h:p):inW p (.int .i64 n):=⟨n,rfl,fun _=>h⟩
def lfN (l:List Lif):List ByteArray:=l.map (·.1)
theorem lfN_len (l:List Lif):(lfN l).length=l.length:=by simp [lfN]
end Go.Lg
namespace Go.Proofs.YtlnphjjhfgghkaaGreatDoor
open Go Go.Lg Go.RowKit
set_option maxRecDepth 20000
theorem over63_ret (f:FN) (hL:f.lives.length≤64) (hO:∀ p∈f.lives,p.2.length≤64) (x y:ByteArray):PRet Tryz.prog 63 (.str x :: .str y::[.ip f.cells 0]) (.bool (overB f.lives x y)):=by
  have h:=over_ret f.toC x y hL hO
  rw [FN.toC_cells] at h
  have e:f.toC.lives=f.lives:=rfl
  rw [e] at h
  refine pret_intro fdt63 (by simp) ?_
  simp only [lct63,VCA,simprocAttr,encL,MCA,FN.call,FN.snapc,FN.sokc,FN.onec,FN.imvc,FN.len]
  refine callX_of h (.inl rfl) ?_
  simp only [VCA,simprocAttr,encL,MCA]
theorem eq64_ret (f g:FD):PRet Tryz.prog 64 (.agg g.cells::[.ip f.cells 0]) (.bool ((fun g=>decide (g.name=f.name)) g)):=by
  refine pret_intro fdt64 (by simp) ?_
  simp only [lct64,VCA,simprocAttr,encL,MCA,TTA,LDA,eqB,txt_eq,ba_beq]
theorem sfunction_rel (M:List ST) (G:List FN) (hM:∀ s∈M,s.sm) (f:FN) (hf:f.sm) (hh:hdrB f=true):PRetR Tryz.prog 29 [.ip [.im (smM M),.im (fnM G)] 0,.agg f.cells] (inW (lkS M f.name=none∧lkN G f.name=none)):=by
  obtain ⟨s1,⟨s2,s2'⟩,⟨s3,s3'⟩,s4,⟨s5,s5'⟩,s6⟩:=hf
  simp only [hdrB,Bool.and_eq_true,decide_eq_true_eq] at hh
  obtain ⟨h1,h2,hL,h4,h5⟩:=hh
  have hO:∀ p∈f.lives,p.2.length≤64:=fun p hp=>by
    have:=List.all_eq_true.1 h1 p hp
    simp only [lifB,livesB,Bool.and_eq_true,decide_eq_true_eq] at this
    exact this.2.2
  have hK:∀ x∈f.params,kindB x.type 1=true:=fun x hx=>by
    simp only [fieldsB,Bool.and_eq_true,decide_eq_true_eq] at h4
    have:=List.all_eq_true.1 h4.1 x hx
    simp only [fieldB,Bool.and_eq_true] at this
    exact this.2.2
  have hov:=over63_ret f hL hO
  have hnl:(lfN f.lives).length≤SB:=by rw [lfN_len];exact s2
  have hmi:∀ d,imV (d+2) (.fn 63 [.ip f.cells 0])=true:=fun d=>by simp [imV,FN.imvc]
  have hhd:=fun (t:TT) (ht:t.sm) (hk:kindB t 1=true)=>head_ret M (fnM G) hM (lfN f.lives) hnl 63 [.ip f.cells 0] (overB f.lives) hmi (fun _ _=>rfl) (fun H d=>by simp only [List.map_cons,List.map_nil,snap]) hov f.pub t ht 1 hk
  refine pretR_intro fdt29 (by simp) ?_
  rcases find_sm f.name M with ⟨m1,m2⟩|⟨j,x,m1,m2,m3,m4⟩
  case inr =>
    rcases find_fn f.name G with ⟨n1,n2⟩|⟨j',x',n1,n2,n3,n4⟩
    · simp only [lct29,VCA,simprocAttr,encL,MCA,TTA,LDA,smM_keys,fnM_keys,m1,n1,st_setA,fn_set,Option.isSome,FNA,TT.snapc,TT.sokc,TT.imvc]
      exact inW_no (by decide)
    · simp only [lct29,VCA,simprocAttr,encL,MCA,TTA,LDA,smM_keys,fnM_keys,m1,n1,st_setA,fn_set,Option.isSome,FNA,TT.snapc,TT.sokc,TT.imvc]
      exact inW_no (by decide)
  rcases find_fn f.name G with ⟨n1,n2⟩|⟨j',x',n1,n2,n3,n4⟩
  case inr =>
    simp only [lct29,VCA,simprocAttr,encL,MCA,TTA,LDA,smM_keys,fnM_keys,m1,n1,st_setA,fn_set,Option.isSome,FNA,TT.snapc,TT.sokc,TT.imvc]
    exact inW_no (by decide)
  have hll:(lfN f.lives).length=f.lives.length:=lfN_len _
  have htA:((lfN f.lives).flatMap cS).take f.lives.length=(lfN f.lives).flatMap cS:=List.take_of_length_le (by rw [ls_len,hll];exact Nat.le_refl _)
  have hnew:lkS M f.name=none∧lkN G f.name=none:=⟨m2,n2⟩
  rw [sb_eq] at s2 s3
  simp only [lct29,VCA,simprocAttr,encL,MCA,TTA,LDA,smM_keys,fnM_keys,m1,n1,st_setA,fn_set,Option.isSome,FNA,TT.snapc,TT.sokc,TT.imvc]
  refine loop_vcg (ι:=Nat × (Nat→Nat)) (fun (i,c)=>stO [(0,.val (.ip [.im (smM M),.im (fnM G)] 0)),(3,.box f.cells),(9,.own 1 i ((lfN (f.lives.take i)).flatMap cS)),(43,.val (encL cLif f.lives)),(44,.val (.int .i64 f.lives.length)),(45,.val (.int .i64 i))] c)
    (fun (i,_)=>i≤f.lives.length) (fun (i,_)=>f.lives.length - i) (0,_) (Nat.zero_le _) (ent_of _ [] rfl rfl (by simp only [VCA,simprocAttr,encL,lf_imv,FNA,TT.snapc,TT.sokc,TT.imvc,List.take_zero,lfN,List.map_nil,List.flatMap_nil];try decide)) ?_
  rintro ⟨i,c⟩ hi
  have hi:i≤f.lives.length:=hi
  simp only [VCA,simprocAttr,encL]
  refine condD_of (fun h=>?_) (fun h=>?_)
  · have hi':i<f.lives.length:=by omega
    have ii:0≤(i:Int)∧(i:Int)<f.lives.length:=by omega
    have i2:InI64 ((i:Int)+1):=by unfold InI64;omega
    have lA:=lf_A hi'
    have htk:lfN (f.lives.take i)++[f.lives[i].1]=lfN (f.lives.take (i+1)):=by rw [List.take_add_one,List.getElem?_eq_getElem hi',lfN,lfN,List.map_append];rfl
    have hsz:(i+1)*16≤140737488355328∧i+1≤4611686018427387904:=by omega
    have hln:((lfN (f.lives.take i)).flatMap cS).length=i:=by rw [ls_len,lfN_len,List.length_take,Nat.min_eq_left hi]
    generalize f.lives[i]=p at *
    have hc0:ldV false 1 (cLif p) 0=some (.str p.1):=rfl
    have hset:setCells [V.str ⟨#[]⟩,V.e0] 0 (cLif p)=cLif p:=rfl
    have hst:setCells [V.str ⟨#[]⟩] 0 [V.str p.1]=[V.str p.1]:=rfl
    have h2n:(cLif p).length=2:=rfl
    have h2o:(cLif p).all V.one=true:=rfl
    simp only [VCA,simprocAttr,encL,MCA,ii,lA,hset,hc0,h2n,h2o,hln,hsz,i2,hst,Nat.mul_one]
    exact backTo_of (i+1,_) hi' (by simp only [];omega) (ent_of _ [] rfl rfl (by simp only [VCA,simprocAttr,encL,lf_imv,FNA,TT.snapc,TT.sokc,TT.imvc,htk,ls_imv]))
  obtain rfl:i=f.lives.length:=by omega
  rw [List.take_length]
  simp only [VCA,simprocAttr,encL,MCA,FNA,TT.snapc,TT.sokc,TT.imvc]
  refine loop_vcg (ι:=Nat × (Nat→Nat)) (fun (i,c)=>stO [(0,.val (.ip [.im (smM M),.im (fnM G)] 0)),(3,.box f.cells),(9,.own 1 f.lives.length ((lfN f.lives).flatMap cS)),(56,.val (encL cLif f.lives)),(57,.val (.int .i64 f.lives.length)),(58,.val (.int .i64 i))] c)
    (fun (i,_)=>i≤f.lives.length) (fun (i,_)=>f.lives.length - i) (0,_) (Nat.zero_le _) (ent_of _ [] rfl rfl (by simp only [VCA,simprocAttr,encL,lf_imv,FNA,TT.snapc,TT.sokc,TT.imvc,ls_imv])) ?_
  clear hi h
  rintro ⟨i,c⟩ hi
  have hi:i≤f.lives.length:=hi
  simp only [VCA,simprocAttr,encL]
  refine condD_of (fun h=>?_) (fun h=>?_)
  · have hi':i<f.lives.length:=by omega
    have ii:0≤(i:Int)∧(i:Int)<f.lives.length∧(i:Int)≤f.lives.length:=by omega
    have i2:InI64 ((i:Int)+1):=by unfold InI64;omega
    have lA:=lf_A hi'
    have hpm:=s2' _ (List.getElem_mem hi')
    generalize f.lives[i]=p at *
    have hc0:ldV false 1 (cLif p) 0=some (.str p.1):=rfl
    have hc1:ldV false 1 (cLif p) 1=some (encL cS p.2):=rfl
    have hset:setCells [V.str ⟨#[]⟩,V.e0] 0 (cLif p)=cLif p:=rfl
    have h2n:(cLif p).length=2:=rfl
    have h2o:(cLif p).all V.one=true:=rfl
    have htl:((lfN f.lives).take i).length=i:=by rw [List.length_take,hll];omega
    have hco:=conts_ret ((lfN f.lives).take i) p.1 (by rw [htl,sb_eq];omega)
    rw [encL,htl] at hco
    have hwi:=within_ret p.2 (lfN f.lives) hpm.2.1 hnl
    rw [encL,encL,hll] at hwi
    have htk:((lfN f.lives).flatMap cS).take i=((lfN f.lives).take i).flatMap cS:=by
      have:=flat_tk (f:=cS) (s:=1) (fun _=>rfl) (lfN f.lives) i
      rwa [Nat.mul_one] at this
    simp only [VCA,simprocAttr,encL,MCA,ii,lA,hset,hc0,hc1,h2n,h2o,hi,Nat.mul_one,ls_len,hll,htk,ls_sok,ls_snap]
    refine callV_of hco (.inr rfl) ?_
    cases inB ((lfN f.lives).take i) p.1
    case true =>
      simp only [VCA,simprocAttr,encL,MCA]
      exact inW_no (by decide)
    simp only [VCA,simprocAttr,encL,MCA,hc1,ls_snap,ls_sok,hll,htA,Nat.le_refl,decide_true]
    refine callX_of hwi (.inr rfl) ?_
    cases withinB p.2 (lfN f.lives)
    · simp only [VCA,simprocAttr,encL,MCA]
      exact inW_no (by decide)
    simp only [VCA,simprocAttr,encL,MCA,i2]
    exact backTo_of (i+1,_) hi' (by simp only [];omega) (ent_of _ [] rfl rfl (by simp only [VCA,simprocAttr,encL,lf_imv,FNA,TT.snapc,TT.sokc,TT.imvc,ls_imv]))
  obtain rfl:i=f.lives.length:=by omega
  simp only [VCA,simprocAttr,encL,MCA,FNA,TT.snapc,TT.sokc,TT.imvc]
  refine loop_vcg (ι:=Nat × (Nat→Nat)) (fun (i,c)=>stO [(0,.val (.ip [.im (smM M),.im (fnM G)] 0)),(14,.clo 63 [3]),(3,.box f.cells),(9,.own 1 f.lives.length ((lfN f.lives).flatMap cS)),(77,.val (encL FD.cells f.params)),(78,.val (.int .i64 f.params.length)),(79,.val (.int .i64 i))] c)
    (fun (i,_)=>i≤f.params.length) (fun (i,_)=>f.params.length - i) (0,_) (Nat.zero_le _) (ent_of _ [] rfl rfl (by simp only [VCA,simprocAttr,encL,lf_imv,FNA,TT.snapc,TT.sokc,TT.imvc,ls_imv,fd_imv,List.all_cons,List.any_cons,Nat.reduceBEq];try decide)) ?_
  clear hi h
  rintro ⟨i,c⟩ hi
  have hi:i≤f.params.length:=hi
  simp only [VCA,simprocAttr,encL,MCA,List.all_cons,List.any_cons,Nat.reduceBEq]
  refine condD_of (fun h=>?_) (fun h=>?_)
  · have hi':i<f.params.length:=by omega
    have ii:0≤(i:Int)∧(i:Int)<f.params.length∧(i:Int)≤f.params.length:=by omega
    have i2:InI64 ((i:Int)+1):=by unfold InI64;omega
    have hld:=FD.ld0 (l:=f.params) (i:=i) (n:=6) (agg:=true) hi' (by decide) (by decide)
    rw [FD.call] at hld
    obtain ⟨g,hg⟩:∃ g,g=f.params[i]:=⟨_,rfl⟩
    have hgm:g∈f.params:=by rw [hg];exact List.getElem_mem hi'
    rw [← hg] at hld
    have htk:(f.params.flatMap FD.cells).take (i*6)=(f.params.take i).flatMap FD.cells:=flat_tk (f:=FD.cells) (s:=6) FD.len f.params i
    have hln:(f.params.take i).length=i:=by rw [List.length_take];omega
    have hany:=containsF_ret (f.params.take i) 64 [.ip g.cells 0] (fun x=>decide (x.name=g.name)) (by rw [hln,sb_eq];omega) (fun _ _=>rfl) (fun H d=>by simp only [List.map_cons,List.map_nil,snap]) (fun x _=>eq64_ret g x)
    rw [encL,hln] at hany
    have hhg:=hhd g.type (s3' g hgm).2 (hK g hgm)
    rw [encL,hll] at hhg
    simp only [VCA,simprocAttr,encL,MCA,TTA,LDA,ii,hld,fd_set,htk,hi,FNA,TT.snapc,TT.sokc,TT.imvc]
    refine ⟨by rw [flat_len FD.len];exact Nat.mul_le_mul_right 6 hi,callX_of hany (.inr rfl) ?_⟩
    cases (f.params.take i).any (fun x=>decide (x.name=g.name))
    case true =>
      simp only [VCA,simprocAttr,encL,MCA]
      exact inW_no (by decide)
    simp only [VCA,simprocAttr,encL,MCA,TTA,LDA,FNA,TT.snapc,TT.sokc,TT.imvc,ls_snap,ls_sok,hll,htA,Nat.le_refl,decide_true]
    refine callX_of hhg (.inr rfl) ?_
    cases b3:decide (headS M (lfN f.lives) (overB f.lives) f.pub g.type=0)
    · have b4:=of_decide_eq_false b3
      simp only [VCA,simprocAttr,encL,MCA,b3]
      exact inW_no b4
    · have b4:=of_decide_eq_true b3
      simp only [VCA,simprocAttr,encL,MCA,b3,i2,b4]
      exact backTo_of (i+1,_) hi' (by simp only [];omega) (ent_of _ [] rfl rfl (by simp only [VCA,simprocAttr,encL,lf_imv,FNA,TT.snapc,TT.sokc,TT.imvc,ls_imv,fd_imv,List.all_cons,List.any_cons,Nat.reduceBEq];try decide))
  obtain rfl:i=f.params.length:=by omega
  simp only [VCA,simprocAttr,encL,MCA,FNA,TT.snapc,TT.sokc,TT.imvc]
  refine condD_of (fun h0=>?_) (fun h0=>?_)
  · simp only [VCA,simprocAttr,encL,MCA]
    exact inW_t hnew
  have hkr:kindB f.result 1=true:=by
    simp only [resB,h0,decide_false,Bool.false_and,Bool.false_or] at h5
    exact h5
  have hhg:=hhd f.result s4 hkr
  rw [encL,hll] at hhg
  simp only [VCA,simprocAttr,encL,MCA,FNA,TT.snapc,TT.sokc,TT.imvc,ls_snap,ls_sok,hll,htA,Nat.le_refl,decide_true]
  refine callX_of hhg (.inr rfl) ?_
  simp only [VCA,simprocAttr,encL,MCA]
  exact inW_t hnew
end Go.Proofs.YtlnphjjhfgghkaaGreatDoor

namespace Go.Lg
open Go Go.RowKit
theorem smM_snoc (M:List ST) (s:ST):smM (M++[s])=smM M++[(.str s.name,.agg s.cells)]:=by simp [smM]
theorem mm2 (a b:Key):setCells (setCells [.nilm,.nilm] 0 [.mm a]) 1 [.mm b]=[.mm a,.mm b]:=rfl
theorem smM_sok (H:Heap) (d:Nat) (M:List ST):((smM M).all fun e=>sok H (d+2) e.1 && sok H (d+2) e.2)=true:=by
  rw [List.all_eq_true]
  intro e he
  obtain ⟨p,_,rfl⟩:=List.mem_map.1 he
  simp only [sok,ST.sokc,Bool.and_self]
theorem smM_snap (H:Heap) (d:Nat) (M:List ST):((smM M).map fun e=>(snap H (d+2) e.1,snap H (d+2) e.2))=smM M:=by
  rw [smM,List.map_map]
  refine List.map_congr_left fun p _=>?_
  simp only [Function.comp,snap,ST.snapc]
theorem smM_ent (H:Heap) (d:Nat) (M:List ST):((smM M).map fun e=>(e.1,snap H (d+2) e.2))=smM M:=by
  rw [smM,List.map_map]
  refine List.map_congr_left fun p _=>?_
  simp only [Function.comp,snap,ST.snapc]
theorem smM_im (d:Nat) (M:List ST):((smM M).all fun e=>imV (d+1) e.1)=true:=by
  rw [List.all_eq_true]
  intro e he
  obtain ⟨p,_,rfl⟩:=List.mem_map.1 he
  rfl
theorem fnM_sok (H:Heap) (d:Nat) (M:List FN):((fnM M).all fun e=>sok H (d+2) e.1 && sok H (d+2) e.2)=true:=by
  rw [List.all_eq_true]
  intro e he
  obtain ⟨p,_,rfl⟩:=List.mem_map.1 he
  simp only [sok,FN.sokc,Bool.and_self]
theorem fnM_snap (H:Heap) (d:Nat) (M:List FN):((fnM M).map fun e=>(snap H (d+2) e.1,snap H (d+2) e.2))=fnM M:=by
  rw [fnM,List.map_map]
  refine List.map_congr_left fun p _=>?_
  simp only [Function.comp,snap,FN.snapc]
theorem fnM_ent (H:Heap) (d:Nat) (M:List FN):((fnM M).map fun e=>(e.1,snap H (d+2) e.2))=fnM M:=by
  rw [fnM,List.map_map]
  refine List.map_congr_left fun p _=>?_
  simp only [Function.comp,snap,FN.snapc]
theorem fnM_im (d:Nat) (M:List FN):((fnM M).all fun e=>imV (d+1) e.1)=true:=by
  rw [List.all_eq_true]
  intro e he
  obtain ⟨p,_,rfl⟩:=List.mem_map.1 he
  rfl
theorem fnM_snoc (M:List FN) (s:FN):fnM (M++[s])=fnM M++[(.str s.name,.agg s.cells)]:=by simp [fnM]
end Go.Lg
namespace Go.Proofs.YtlnphjjhfgghkaaGreatDoor
open Go Go.Lg Go.RowKit
set_option maxRecDepth 20000
theorem right_rel (n:ByteArray) (hn:n.size≤SB) (c:CR) (hc:c.ok):PRetR Tryz.prog 24 [.str n,.sl 0 [],.agg c.cells] (boW (mayP c) (nameB n=true∧mayQ c)):=by
  have hm:=may_rel c hc
  have hnm:=name_ret n (sb_max hn)
  obtain ⟨Q,hQ⟩:∃ Q,Q=(nameB n=true∧mayQ c):=⟨_,rfl⟩
  have hq1:Q→nameB n=true:=fun h=>by rw [hQ] at h;exact h.1
  have hq2:Q→mayQ c:=fun h=>by rw [hQ] at h;exact h.2
  rw [← hQ]
  refine pretR_intro fdt24 (by simp) ?_
  simp only [lct24,VCA,simprocAttr,encL,MCA,CRA]
  refine loop_vcg (ι:=Nat→Nat) (fun e=>stO [(0,.val (.str n)),(1,.val (.sl 0 [])),(5,.box c.cells),(9,.val (.sl 0 [])),(10,.val (.int .i64 0)),(11,.val (.int .i64 0))] e)
    (fun _=>True) (fun _=>0) _ trivial (ent_of _ [] rfl rfl (by simp only [VCA,simprocAttr,encL,MCA,CRA])) ?_
  rintro e -
  simp only [VCA,simprocAttr,encL,MCA,CRA]
  refine callX_of hnm (.inr rfl) ?_
  cases b1:nameB n
  · simp only [VCA,simprocAttr,encL,MCA,CRA]
    exact boW_no fun h=>by have:=hq1 h;rw [b1] at this;cases this
  simp only [VCA,simprocAttr,encL,MCA,CRA]
  refine callRF_of hm (fun r hr=>?_) (by simp only [VCA,simprocAttr,encL,MCA,CRA]) (fun _=>boW_flat)
  obtain ⟨b,rfl,h1,h2⟩:=hr
  simp only [VCA,simprocAttr,encL,MCA,CRA]
  exact ⟨_,rfl,h1,fun h=>h2 (hq2 h)⟩
def phS (M:List ST):List ST→Option (Int × Int)
  | []=>none
  | s::r=>if newS M s=0 then phS (M++[s]) r else some (newS M s,s.at')
def phF (M:List ST) (G:List FN):Prop:=∀ i (h:i<G.length),lkS M G[i].name=none∧lkN (G.take i) G[i].name=none
def okN (c:CR):Prop:=mayP c∧phS [] c.structs=none∧phF c.structs c.funcs
def fltE (k i:Int):V:=.ifc 92 (.ip [.int .i64 k,.int .i64 i,.ifc 75 (.int .i64 k)] 0)
theorem fltV_E {k:Int} (i:Int) (h:k≠0):fltV k i = .ifc 92 (.ip [.int .i64 k,.int .i64 i,.ifc 75 (.int .i64 k)] 0):=if_neg h
def newR (n:ByteArray) (c:CR) (v:V):Prop :=
  (v = .tup [.ip [.im (smM c.structs),.im (fnM c.funcs)] 0,.nili]∧okN c)∨(∃ k i:Int,k≠0∧v = .tup [.nilp,fltE k i]∧(nameB n=true→mayQ c→phS [] c.structs=some (k,i)))
theorem newR_bad {n:ByteArray} {c:CR} {k i:Int} (h:k≠0) (hq:nameB n=true→mayQ c→phS [] c.structs=some (k,i)):newR n c (.tup [.nilp,.ifc 92 (.ip [.int .i64 k,.int .i64 i,.ifc 75 (.int .i64 k)] 0)]):=.inr ⟨k,i,h,rfl,hq⟩
theorem phS_drop {M:List ST} {l:List ST} {i:Nat} (h:i<l.length):phS M (l.drop i)=if newS M l[i]=0 then phS (M++[l[i]]) (l.drop (i+1)) else some (newS M l[i],l[i].at'):=by
  rw [List.drop_eq_getElem_cons h];rfl
theorem newS_none {M:List ST} {s:ST} (h:newS M s=0):lkS M s.name=none:=by
  rw [newS] at h
  cases e:lkS M s.name with
  | none=>rfl
  | some x=>rw [e] at h;simp at h
theorem kind_of_strukt {s:ST} (h:struktB s=true):∀ f∈s.fields,kindB f.type 1=true:=fun f hf=>by
  simp only [struktB,fieldsB,Bool.and_eq_true] at h
  have:=List.all_eq_true.1 h.2.2.1 f hf
  simp only [fieldB,Bool.and_eq_true] at this
  exact this.2.2
theorem take_snoc {α:Type} {l:List α} {i:Nat} (h:i<l.length):l.take i++[l[i]]=l.take (i+1):=by
  rw [List.take_add_one,List.getElem?_eq_getElem h];rfl
set_option maxHeartbeats 4000000 in
theorem new_rel (n:ByteArray) (hn:n.size≤SB) (c:CR) (hc:c.ok):PRetR Tryz.prog 11 [.str n,.sl 0 [],.agg c.cells] (newR n c):=by
  have hr:=right_rel n hn c hc
  obtain ⟨⟨⟨s1,s1'⟩,s2,s2'⟩,s3⟩:=hc
  rw [sb_eq] at s1 s2
  refine pretR_intro fdt11 (by simp) ?_
  simp only [lct11,VCA,simprocAttr,encL,MCA,CRA]
  refine callRF_of hr (fun r hr=>?_) (by simp only [VCA,simprocAttr,encL,MCA,CRA]) (fun _=>boW_flat)
  obtain ⟨b,rfl,h1,h2⟩:=hr
  cases b
  · simp only [VCA,simprocAttr,encL,MCA,CRA]
    refine callX_of (flt_ret 1 0) (.inl rfl) ?_
    rw [fltV_E _ (by decide)]
    simp only [VCA,simprocAttr,encL,MCA,List.mapM_cons,List.mapM_nil,Option.pure_def,Option.bind_eq_bind,Option.bind_some,Option.map_some,some_ex,CRA]
    exact newR_bad (by decide) fun q1 q2=>by cases h2 ⟨q1,q2⟩
  have hmay:=h1 rfl
  clear h1 h2
  simp only [VCA,simprocAttr,encL,MCA,CRA]
  refine loop_vcg (ι:=Nat→Nat) (fun e=>stO [(5,.box c.cells),(8,.boxmm [] []),(27,.val (.sl 0 [])),(28,.val (.int .i64 0)),(29,.val (.int .i64 0))] e)
    (fun _=>True) (fun _=>0) _ trivial (ent_of _ [] rfl rfl (by simp only [VCA,simprocAttr,encL,MCA,mm2,List.map_nil,List.all_nil,CRA];try decide)) ?_
  rintro e -
  simp only [VCA,simprocAttr,encL,MCA,CRA]
  refine loop_vcg (ι:=Nat × (Nat→Nat)) (fun (i,e)=>stO [(5,.box c.cells),(8,.boxmm (smM (c.structs.take i)) []),(38,.val (encL ST.cells c.structs)),(39,.val (.int .i64 c.structs.length)),(40,.val (.int .i64 i))] e)
    (fun (i,_)=>i≤c.structs.length∧phS [] c.structs=phS (c.structs.take i) (c.structs.drop i)) (fun (i,_)=>c.structs.length - i) (0,_) ⟨Nat.zero_le _,rfl⟩ (ent_of _ [] rfl rfl (by simp only [VCA,simprocAttr,encL,MCA,mm2,List.map_nil,List.all_nil,List.take_zero,smM,ST.imvs,CRA];try decide)) ?_
  rintro ⟨i,e⟩ ⟨hi,hp⟩
  have hi:i≤c.structs.length:=hi
  have hp:phS [] c.structs=phS (c.structs.take i) (c.structs.drop i):=hp
  simp only [VCA,simprocAttr,encL,MCA]
  refine condD_of (fun h=>?_) (fun h=>?_)
  · have hi':i<c.structs.length:=by omega
    have ii:0≤(i:Int)∧(i:Int)<c.structs.length:=by omega
    have i2:InI64 ((i:Int)+1):=by unfold InI64;omega
    have hld:=ST.ld0 (l:=c.structs) (i:=i) (n:=5) (agg:=true) hi' (by decide) (by decide)
    rw [ST.call] at hld
    have hsm:=s1' _ (List.getElem_mem hi')
    have hkb:=hmay.2.1
    have hst:=sstrukt_ret (c.structs.take i) [] (fun s hs=>s1' s (List.mem_of_mem_take hs)) _ hsm (kind_of_strukt (List.all_eq_true.1 hkb _ (List.getElem_mem hi')))
    have htk:=take_snoc hi'
    rw [phS_drop hi'] at hp
    have hcl:=cstruct_ret _ hsm
    generalize c.structs[i]=s at *
    simp only [VCA,simprocAttr,encL,MCA,ii,hld,ST.len,ST.call,ST.c0,ST.c1,ST.c2,ST.c3,ST.c4,ST.snapc,ST.sokc,ST.onec,ST.imvc,st_setA,smM_sok,smM_snap,fnM_sok,fnM_snap,smM_keys,fnM_keys]
    refine callX_of hst (.inr rfl) ?_
    by_cases h0:newS (c.structs.take i) s=0
    case neg =>
      rw [if_neg h0] at hp
      simp only [VCA,simprocAttr,encL,MCA,ST.len,ST.call,ST.c0,ST.c1,ST.c2,ST.c3,ST.c4,ST.snapc,ST.sokc,ST.onec,ST.imvc,st_setA,h0,decide_false]
      refine callX_of (flt_ret _ _) (.inl rfl) ?_
      rw [fltV_E _ h0]
      simp only [VCA,simprocAttr,encL,MCA,List.mapM_cons,List.mapM_nil,Option.pure_def,Option.bind_eq_bind,Option.bind_some,Option.map_some,some_ex,ST.len,ST.call,ST.c0,ST.c1,ST.c2,ST.c3,ST.c4,ST.snapc,ST.sokc,ST.onec,ST.imvc,st_setA]
      exact newR_bad h0 fun _ _=>hp
    rw [if_pos h0,htk] at hp
    rw [h0]
    have hnn:=newS_none h0
    have hsk:findK (.str s.name) (smM (c.structs.take i))=none:=by
      rcases find_sm s.name (c.structs.take i) with ⟨q1,q2⟩|⟨j,x,q1,q2,_⟩
      · exact q1
      · rw [hnn] at q2;cases q2
    have hsn:smM (c.structs.take i)++[(.str s.name,.agg s.cells)]=smM (c.structs.take (i+1)):=by rw [← smM_snoc,htk]
    simp only [VCA,simprocAttr,encL,MCA,LDA,ST.len,ST.call,ST.c0,ST.c1,ST.c2,ST.c3,ST.c4,ST.snapc,ST.sokc,ST.onec,ST.imvc,st_setA,smM_sok,smM_snap,fnM_sok,fnM_snap,smM_keys,fnM_keys]
    refine callV_of hcl (.inl rfl) ?_
    simp only [VCA,simprocAttr,encL,MCA,ST.len,ST.call,ST.c0,ST.c1,ST.c2,ST.c3,ST.c4,ST.snapc,ST.sokc,ST.onec,ST.imvc,st_setA,smM_sok,smM_snap,fnM_sok,fnM_snap,smM_keys,fnM_keys,setK_no hsk,hsn,i2]
    exact backTo_of (i+1,_) ⟨hi',hp⟩ (by simp only [];omega) (ent_of _ [] rfl rfl (by simp only [VCA,simprocAttr,encL,MCA,ST.imvs,CRA,smM_ent,smM_im,List.map_nil,List.all_nil];try decide))
  obtain rfl:i=c.structs.length:=by omega
  rw [List.take_length,List.drop_length,phS] at hp
  rw [List.take_length]
  simp only [VCA,simprocAttr,encL,MCA,CRA]
  refine loop_vcg (ι:=Nat × (Nat→Nat)) (fun (i,e)=>stO [(8,.boxmm (smM c.structs) (fnM (c.funcs.take i))),(63,.val (encL FN.cells c.funcs)),(64,.val (.int .i64 c.funcs.length)),(65,.val (.int .i64 i))] e)
    (fun (i,_)=>i≤c.funcs.length∧∀ j (hj:j<c.funcs.length),j<i→lkS c.structs c.funcs[j].name=none∧lkN (c.funcs.take j) c.funcs[j].name=none) (fun (i,_)=>c.funcs.length - i) (0,_) ⟨Nat.zero_le _,fun j _ hj=>by omega⟩ (ent_of _ [] rfl rfl (by simp only [VCA,simprocAttr,encL,MCA,smM_ent,smM_im,List.map_nil,List.all_nil,List.take_zero,fnM,FN.imvs];try decide)) ?_
  clear hi h
  rintro ⟨i,e⟩ ⟨hi,hF⟩
  have hi:i≤c.funcs.length:=hi
  have hF:∀ j (hj:j<c.funcs.length),j<i→lkS c.structs c.funcs[j].name=none∧lkN (c.funcs.take j) c.funcs[j].name=none:=hF
  simp only [VCA,simprocAttr,encL,MCA]
  refine condD_of (fun h=>?_) (fun h=>?_)
  · have hi':i<c.funcs.length:=by omega
    have ii:0≤(i:Int)∧(i:Int)<c.funcs.length:=by omega
    have i2:InI64 ((i:Int)+1):=by unfold InI64;omega
    have hld:=FN.ld0 (l:=c.funcs) (i:=i) (n:=10) (agg:=true) hi' (by decide) (by decide)
    rw [FN.call] at hld
    have hsm:=s2' _ (List.getElem_mem hi')
    have hfr:=sfunction_rel c.structs (c.funcs.take i) s1' _ hsm (List.all_eq_true.1 hmay.2.2 _ (List.getElem_mem hi'))
    have htk:=take_snoc hi'
    have hcl:=cfunc_ret _ hsm
    have hne:c.funcs≠[]:=fun e=>by rw [e] at hi';simp at hi'
    have hF2:lkS c.structs c.funcs[i].name=none∧lkN (c.funcs.take i) c.funcs[i].name=none→∀ j (hj:j<c.funcs.length),j<i+1→lkS c.structs c.funcs[j].name=none∧lkN (c.funcs.take j) c.funcs[j].name=none:=fun h j hj hl=>by
      rcases Nat.lt_succ_iff_lt_or_eq.1 hl with q|rfl
      · exact hF j hj q
      · exact h
    generalize c.funcs[i]=f at *
    simp only [VCA,simprocAttr,encL,MCA,ii,hld,FNA,fn_set,smM_sok,smM_snap,fnM_sok,fnM_snap,smM_keys,fnM_keys]
    refine callRF_of hfr (fun r hr=>?_) (by simp only [VCA,simprocAttr,encL,MCA,FNA,fn_set,smM_sok,smM_snap,fnM_sok,fnM_snap,smM_keys,fnM_keys]) (fun _=>inW_flat)
    obtain ⟨k,rfl,hk⟩:=hr
    by_cases h0:k=0
    case neg =>
      simp only [VCA,simprocAttr,encL,MCA,FNA,fn_set,h0,decide_false]
      refine callX_of (flt_ret _ _) (.inl rfl) ?_
      rw [fltV_E _ h0]
      simp only [VCA,simprocAttr,encL,MCA,List.mapM_cons,List.mapM_nil,Option.pure_def,Option.bind_eq_bind,Option.bind_some,Option.map_some,some_ex,FNA,fn_set]
      exact newR_bad h0 fun _ q=>absurd q.2.2 hne
    obtain ⟨hnS,hnn⟩:=hk h0
    subst h0
    have hsk:findK (.str f.name) (fnM (c.funcs.take i))=none:=by
      rcases find_fn f.name (c.funcs.take i) with ⟨q1,q2⟩|⟨j,x,q1,q2,_⟩
      · exact q1
      · rw [hnn] at q2;cases q2
    have hsn:fnM (c.funcs.take i)++[(.str f.name,.agg f.cells)]=fnM (c.funcs.take (i+1)):=by rw [← fnM_snoc,htk]
    simp only [VCA,simprocAttr,encL,MCA,LDA,FNA,fn_set,smM_sok,smM_snap,fnM_sok,fnM_snap,smM_keys,fnM_keys]
    refine callV_of hcl (.inl rfl) ?_
    simp only [VCA,simprocAttr,encL,MCA,FNA,fn_set,smM_sok,smM_snap,fnM_sok,fnM_snap,smM_keys,fnM_keys,setK_no hsk,hsn,i2]
    exact backTo_of (i+1,_) ⟨hi',hF2 ⟨hnS,hnn⟩⟩ (by simp only [];omega) (ent_of _ [] rfl rfl (by simp only [VCA,simprocAttr,encL,MCA,FN.imvs,smM_ent,smM_im,fnM_ent,fnM_im];try decide))
  obtain rfl:i=c.funcs.length:=by omega
  rw [List.take_length]
  simp only [VCA,simprocAttr,encL,MCA,List.mapM_cons,List.mapM_nil,Option.pure_def,Option.bind_eq_bind,Option.bind_some,Option.map_some,some_ex,smM_sok,smM_snap,fnM_sok,fnM_snap,smM_keys,fnM_keys]
  exact .inl ⟨rfl,hmay,hp,fun j hj=>hF j hj hj⟩
end Go.Proofs.YtlnphjjhfgghkaaGreatDoor

namespace Go.Lg
open Go Go.RowKit
structure Fk where
  R:List Key
  W:List Key
def hRes (H:Heap):List Key→Heap
  | []=>fun _=>none
  | k::r=>fun x=>if x=k then H x else hRes H r x
theorem hRes_nil (H:Heap) (x:Key):hRes H [] x=none:=rfl
theorem hRes_cons (H:Heap) (k:Key) (r:List Key) (x:Key):hRes H (k::r) x=if x=k then H x else hRes H r x:=rfl
def thereP (H:Heap):List Key→Prop
  | []=>True
  | k::r=>(∃ o,H k=some o)∧thereP H r
def rdF (op:IOp) (tm:Nat→V):List Key:=match op with
  | .call _ a=>(a.map (Rd.get tm)).flatMap keysV
  | op=>rdK op tm
def okF (op:IOp) (σ:St):Prop:=match op with
  | .call _ a=>(a.map (Rd.get σ.tm)).all (sok (hRes σ.H ((a.map (Rd.get σ.tm)).flatMap keysV)) 8)=true
  | .callv ..=>False
  | op=>dynOp op=true
def pzD (P:Program) (f:FuncId) (args:List V) (k:Key) (d:Option Nat) (K:St→Prop) (σ:St):Option LObj→Prop
  | some (.row g esz cs)=>(k.1<PK∧args.all (sok (hRes σ.H [k]) 8)=true)∧∃ r,PRet P f (args.map (snap (hRes σ.H [k]) 8)) r∧K (St.put ⟨σ.tm,hupd σ.H k (.row (g+1) esz []),σ.cnt⟩ d r)
  | _=>False
def pzC (P:Program) (o:LOp) (k:Key) (K:St→Prop) (σ:St):Prop:=match o.op with
  | .call f a=>o.guard=none∧pzD P f (a.map (Rd.get σ.tm)) k o.dst K σ (σ.H k)
  | _=>False
def vopsF (P:Program) (rid:Nat) (pz:Nat→Option Key) (fin:List Fk→Prop):List LOp→Nat→List Fk→(St→Prop)→St→Prop
  | [],_,fs,K,σ=>fin fs∧K σ
  | o::os,i,fs,K,σ=>match pz i with
    | none=>(thereP σ.H (rdF o.op σ.tm)∧okF o.op σ)∧vstep P (siteOf rid i) o (vopsF P rid pz fin os (i+1) (fs++[⟨rdF o.op σ.tm,wrK o.op σ.tm (siteOf rid i) (σ.cnt (siteOf rid i))⟩]) K) σ
    | some k=>pzC P o k (vopsF P rid pz fin os (i+1) (fs++[⟨[k],[k]⟩]) K) σ
def fkOk (a b:Fk):Bool:=(a.R.isEmpty && a.W.isEmpty) || ((b.R.isEmpty && b.W.isEmpty) || (disjK a.W b.R && (disjK a.W b.W && disjK b.W a.R)))
def dkOk (bs:List Nat) (ops:List LOp) (fs:List Fk):Bool:=(List.range ops.length).all fun i=>(List.range i).all fun j=>(bs.getD i 0).testBit j || (apartO (loAt ops j) (loAt ops i) && fkOk (fs.getD j ⟨[],[]⟩) (fs.getD i ⟨[],[]⟩))
theorem thereP_iff {H:Heap}:∀ {ks:List Key},thereP H ks↔∀ k∈ks,∃ o,H k=some o
  | []=>⟨fun _ k hk=>(by cases hk),fun _=>trivial⟩
  | k::r=>by
    rw [thereP,thereP_iff (ks:=r)]
    simp
theorem hRes_sub {H H':Heap}:∀ {ks:List Key},(∀ k∈ks,H' k=H k)→Heap.sub (hRes H ks) H'
  | [],_,k,o,h=>by cases h
  | k::r,he,x,o,h=>by
    rw [hRes_cons] at h
    split at h
    · rename_i e;subst e;rw [he x (List.mem_cons_self ..)];exact h
    · exact hRes_sub (fun q hq=>he q (List.mem_cons_of_mem _ hq)) x o h
theorem there_of {H:Heap} {ks:List Key} {k:Key} (hk:k∈ks) {o:LObj} (h:H k=some o):(k,o)∈there H ks:=by
  simp only [there,List.mem_filterMap,Option.map_eq_some_iff]
  exact ⟨k,hk,o,h,rfl⟩
def EvFk (e:Ev) (f:Fk):Prop:=(∀ p∈e.rd,p.1∈f.R)∧(∀ k∈kw e,k∈f.W)∧e.big=none∧(e.w=none→e.nw=false)
section
variable {P:Program}
theorem args_congr {a:List Rd} {tm tm':Nat→V} (h:∀ t∈lslots a,tm' t=tm t):a.map (Rd.get tm')=a.map (Rd.get tm):=by
  induction a with
  | nil=>rfl
  | cons x r ih =>
    simp only [lslots,List.mem_append] at h
    simp only [List.map_cons]
    rw [Rd.get_congr fun t ht=>h t (.inl ht),ih fun t ht=>h t (.inr ht)]
theorem ev_of_callP {s:Nat} {d:Option Nat} {g:Option (Nat × Bool)} {f:FuncId} {a:List Rd} {σ0 σ1:St} (hp:∀ k∈(a.map (Rd.get σ0.tm)).flatMap keysV,∃ o,σ0.H k=some o)
    (hk:(a.map (Rd.get σ0.tm)).all (sok (hRes σ0.H ((a.map (Rd.get σ0.tm)).flatMap keysV)) 8)=true) (h:LStep P s ⟨d,.call f a,g⟩ σ0 σ1) :
    ∃ e:Ev,EvOk P s ⟨d,.call f a,g⟩ e∧rdyE s ⟨d,.call f a,g⟩ e σ0∧apE s d e σ0=σ1∧EvFk e ⟨(a.map (Rd.get σ0.tm)).flatMap keysV,[]⟩:=by
  generalize hKS:(a.map (Rd.get σ0.tm)).flatMap keysV=ks at *
  have hrr:∀ q∈there σ0.H ks,σ0.H q.1=some q.2:=fun q hq=>(there_mem hq).2
  rcases h with ⟨hg,v,σ',hr,rfl⟩|⟨hg,rfl⟩
  · obtain ⟨r1,r2,r3,rfl⟩:((a.map (Rd.get σ0.tm)).all (sok σ0.H 8)=true)∧PRet P f ((a.map (Rd.get σ0.tm)).map (snap σ0.H 8)) v∧resOk P f (a.map (Rd.get σ0.tm)) ((a.map (Rd.get σ0.tm)).map (snap σ0.H 8)) v∧σ' = σ0:=hr
    refine ⟨⟨v,there σ'.H ks,none,false,σ'.tm,none⟩,?_,⟨⟨fun _ _=>rfl,hrr,fun h=>(by cases h)⟩,fun b h=>(by cases h)⟩,rfl,fun p hp=>(there_mem hp).1,fun k h=>(by cases h),rfl,fun _=>rfl⟩
    rintro σ ⟨⟨t1,t2,t3⟩,_⟩ K hK
    have t1:∀ t∈LOp.slots ⟨d,.call f a,g⟩,σ.tm t=σ'.tm t:=t1
    have ha:a.map (Rd.get σ.tm)=a.map (Rd.get σ'.tm):=args_congr fun t ht=>t1 t (by simp only [LOp.slots,IOp.slots,List.mem_append];exact .inr ht)
    have s0:=soks_mono (hRes_sub (H:=σ'.H) (H':=σ'.H) (ks:=ks) fun _ _=>rfl) hk
    have s1:=soks_mono (hRes_sub (H:=σ'.H) (H':=σ.H) (ks:=ks) fun k hk=>by
      obtain ⟨o,ho⟩:=hp k hk
      rw [ho];exact t2 (k,o) (there_of hk ho)) hk
    refine vstepC_of_LStep (.inl ⟨by rw [gd_congr (tm:=σ'.tm) t1];exact hg,v,σ,?_,rfl⟩) hK
    show RStep P σ s (.call ((a.map (Rd.get σ.tm)).all (sok σ.H 8)=true) f (a.map (Rd.get σ.tm)) ((a.map (Rd.get σ.tm)).map (snap σ.H 8))) v σ
    rw [ha,s1.2,← s0.2]
    exact ⟨s1.1,r2,r3,rfl⟩
  · refine ⟨⟨.tup [],there σ0.H ks,none,false,σ0.tm,none⟩,?_,⟨⟨fun _ _=>rfl,hrr,fun h=>(by cases h)⟩,fun b h=>(by cases h)⟩,rfl,fun p hp=>(there_mem hp).1,fun k h=>(by cases h),rfl,fun _=>rfl⟩
    rintro σ ⟨⟨t1,t2,t3⟩,_⟩ K hK
    exact vstepC_of_LStep (.inr ⟨by rw [gd_congr (tm:=σ0.tm) t1];exact hg,rfl⟩) hK
theorem ev_of_F {s:Nat} {p:LOp} {σ0 σ1:St} (hp:thereP σ0.H (rdF p.op σ0.tm)) (hok:okF p.op σ0) (h:LStep P s p σ0 σ1) :
    ∃ e:Ev,EvOk P s p e∧rdyE s p e σ0∧apE s p.dst e σ0=σ1∧EvFk e ⟨rdF p.op σ0.tm,wrK p.op σ0.tm s (σ0.cnt s)⟩:=by
  have hp:=thereP_iff.1 hp
  obtain ⟨d,op,g⟩:=p
  have gen:∀ (hd:dynOp op=true) (hnc:isCall op=false) (hr:rdF op σ0.tm=rdK op σ0.tm),∃ e:Ev,EvOk P s ⟨d,op,g⟩ e∧rdyE s ⟨d,op,g⟩ e σ0∧apE s d e σ0=σ1∧EvFk e ⟨rdF op σ0.tm,wrK op σ0.tm s (σ0.cnt s)⟩:=by
    intro hd hnc hr
    obtain ⟨e,h1,h2,h3,h4,h5,h6,h7,_⟩:=ev_of_step (p:=⟨d,op,g⟩) (R:=rdK op σ0.tm) (W:=wrK op σ0.tm s (σ0.cnt s)) hd hnc rfl rfl (fun k hk=>hp k (by rw [hr];exact hk)) h
    refine ⟨e,h1,h2,h3,fun q hq=>?_,h5,h6 rfl,h7⟩
    have h4:e.rd=there σ0.H (rdK op σ0.tm):=h4
    rw [h4] at hq
    show q.1∈rdF op σ0.tm
    rw [hr];exact (there_mem hq).1
  cases op with
  | call f a=>exact ev_of_callP hp hok h
  | callv f a=>exact hok.elim
  | _=>exact gen hok rfl rfl
theorem SimG.poison {E:Env} {g:Gh} {σ:St} {a:Act} {w:World} (hs:SimG E g σ a w) {key:Key} {gen esz:Nat} {cs:List V} (hk:σ.H key=some (.row gen esz cs)) (hP:key.1<PK) :
    SimG E ⟨allImm g (hRes σ.H [key]),fun k n=>if k=key∧n=gen+1 then some (none,0) else g.ref k n⟩ ⟨σ.tm,hupd σ.H key (.row (gen+1) esz []),σ.cnt⟩ a w:=by
  have ho:=hs.obj key _ hk
  obtain ⟨blk,cap,r1,r2,r3⟩:=ho
  have ho:=hs.obj key _ hk
  have hall:∀ b,allImm g (hRes σ.H [key]) b→g.imm b∨blkOf g key (.row gen esz cs)=some b:=by
    rintro b (h|⟨k,o,h1,h2⟩)
    · exact .inl h
    · rw [hRes_cons] at h1
      split at h1
      · rename_i e;subst e
        rw [hk] at h1;cases h1;exact .inr h2
      · cases h1
  have hrefs:∀ k n r,g.ref k n=some r→(if k=key∧n=gen+1 then some (none,0) else g.ref k n)=some r:=by
    intro k n r h
    split
    · rename_i e
      rw [e.1,e.2,r2 _ (Nat.lt_succ_self _)] at h;cases h
    · exact h
  have hrep:∀ v x,Rep g w v x→Rep ⟨allImm g (hRes σ.H [key]),fun k n=>if k=key∧n=gen+1 then some (none,0) else g.ref k n⟩ w v x:=fun v x h=>h.mono (fun _ h=>.inl h) (fun _ _=>rfl) hrefs
  refine ⟨hs.below,hs.sizeB,hs.size,hs.defers,fun t=>hrep _ _ (hs.tm t),?_,fun b h=>.inl (hs.imm0 b h),?_,?_,?_,?_,fun k n r h1 h2=>hrefs k n r (hs.ref0 k n r h1 h2)⟩
  · intro b h
    rcases hall b h with h|h
    · exact hs.immlt b h
    · exact (ho.blk h).1
  · intro b hb h
    rcases hall b h with h|h
    · exact hs.immB b hb h
    · rcases (ho.blk h).2.2 with h1|h1
      · omega
      · omega
  · intro k o h
    simp only [hupd] at h
    split at h
    · rename_i e;subst e;cases h
      refine ⟨none,0,if_pos ⟨rfl,rfl⟩,fun m hm=>?_,rfl,rfl⟩
      show (if k=k∧m=gen+1 then some (none,0) else g.ref k m)=none
      rw [if_neg (by omega)];exact r2 m (by omega)
    · rename_i e
      refine (hs.obj k o h).keep (Nat.le_refl _) (fun n r h=>hrefs k n r h) (fun m hm=>?_) (fun b hb hm=>?_) (fun _ _=>rfl) hrep (fun _ h=>.inl h) (fun _ _=>rfl)
      · show (if k=key∧m=gen+1 then some (none,0) else g.ref k m)=none
        rw [if_neg (fun h=>e h.1)];exact hm
      · rcases hall b hm with h1|h1
        · exact h1
        · exact absurd (hs.apart k key o _ b h hk hb h1) e
  · intro k k' o o' b h1 h2 h3 h4
    have none1:∀ {k:Key} {o:LObj},hupd σ.H key (.row (gen+1) esz []) k=some o→blkOf ⟨allImm g (hRes σ.H [key]),fun k n=>if k=key∧n=gen+1 then some (none,0) else g.ref k n⟩ k o=some b→σ.H k=some o∧blkOf g k o=some b:=by
      intro k o h1 h3
      by_cases e:k=key
      · subst e
        have h1:hupd σ.H k (.row (gen+1) esz []) k=some o:=h1
        simp only [hupd,if_true,Option.some.injEq] at h1
        subst h1
        simp [blkOf] at h3
      · simp only [hupd,if_neg e] at h1
        rw [(hs.obj k o h1).blk_keep (fun n r h=>hrefs k n r h)] at h3
        exact ⟨h1,h3⟩
    obtain ⟨a1,a2⟩:=none1 h1 h3
    obtain ⟨b1,b2⟩:=none1 h2 h4
    exact hs.apart k k' o o' b a1 b1 a2 b2
  · intro s n hn
    obtain ⟨f1,f2⟩:=hs.fresh s n hn
    have hne:¬ (s,n)=key:=by rintro rfl;rw [hk] at f1;cases f1
    refine ⟨?_,fun m=>?_⟩
    · simp only [hupd,if_neg hne];exact f1
    · show (if (s,n)=key∧m=gen+1 then some (none,0) else g.ref (s,n) m)=none
      rw [if_neg (fun h=>hne h.1)];exact f2 m
theorem pst_poison {f:FuncId} {args:List V} {σ:St} {key:Key} {gen esz:Nat} {cs:List V} {r:V} (hPR:PRet P f (args.map (snap (hRes σ.H [key]) 8)) r) (hk:σ.H key=some (.row gen esz cs)) (hP:key.1<PK) :
    PSt P f args σ fun v σ1=>v=r∧σ1=⟨σ.tm,hupd σ.H key (.row (gen+1) esz []),σ.cnt⟩:=by
  refine ⟨hPR.1,fun E hE g a w vs hs hsz hargs=>?_⟩
  haveI:=hE
  have hle:St.le ⟨σ.tm,hRes σ.H [key],σ.cnt⟩ σ:=⟨fun _=>.inl rfl,fun k o h=>by
    exact hRes_sub (H:=σ.H) (H':=σ.H) (ks:=[key]) (fun _ _=>rfl) k o h,fun _=>Nat.le_refl _⟩
  have hsr:=hs.le hle
  have hsp:=hs.poison hk hP
  have himm:Imm0 P (allImm g (hRes σ.H [key])) w:=⟨fun b h=>allImm_lt hsr b h,EOk.gok hs⟩
  refine (hPR.2 (allImm g (hRes σ.H [key])) w vs himm (by rw [List.length_map];exact hsz) (fun j u c hu hc=>?_)).mono ?_
  · rw [List.getElem?_map,Option.map_eq_some_iff] at hc
    obtain ⟨c0,hc0,rfl⟩:=hc
    exact snap_rep hsr 8 (hargs j u c0 hu hc0)
  · rintro e w' ⟨v,imm',rfl,hv,hb,h1,h2⟩
    exact ⟨v,r,_,_,rfl,hsp.grow hb h1 h2,.imm _ _ hv,rfl,rfl⟩
theorem ev_of_pz {s:Nat} {p:LOp} {k:Key} {K:St→Prop} {σ0:St} (h:pzC P p k K σ0) :
    ∃ (e:Ev) (σ1:St),K σ1∧EvOk P s p e∧rdyE s p e σ0∧apE s p.dst e σ0=σ1∧EvFk e ⟨[k],[k]⟩:=by
  obtain ⟨d,op,g⟩:=p
  cases op with
  | call f a =>
    obtain ⟨hg,h⟩:=h
    have hg:g=none:=hg
    subst hg
    have h:pzD P f (a.map (Rd.get σ0.tm)) k d K σ0 (σ0.H k):=h
    cases hk:σ0.H k with
    | none=>rw [hk] at h;exact h.elim
    | some o =>
      rw [hk] at h
      cases o with
      | map es=>exact h.elim
      | it _ _=>exact h.elim
      | row gen esz cs =>
        obtain ⟨⟨h1,h2⟩,r,h3,h4⟩:=h
        refine ⟨⟨r,[(k,.row gen esz cs)],some (k,.row (gen+1) esz []),false,σ0.tm,none⟩,_,h4,?_,⟨⟨fun _ _=>rfl,fun q hq=>?_,fun h=>(by cases h)⟩,fun b h=>(by cases h)⟩,rfl,fun q hq=>?_,fun q hq=>hq,rfl,fun h=>(by cases h)⟩
        · rintro σ ⟨⟨t1,t2,t3⟩,_⟩ K hK
          have t1:∀ t∈LOp.slots ⟨d,.call f a,none⟩,σ.tm t=σ0.tm t:=t1
          have ha:a.map (Rd.get σ.tm)=a.map (Rd.get σ0.tm):=args_congr fun t ht=>t1 t (by simp only [LOp.slots,IOp.slots,List.mem_append];exact .inr ht)
          have hk':σ.H k=some (.row gen esz cs):=t2 (k,.row gen esz cs) (List.mem_singleton.2 rfl)
          have he:hRes σ.H [k]=hRes σ0.H [k]:=by
            funext x
            rw [hRes_cons,hRes_cons]
            by_cases e:x=k
            · subst e;rw [if_pos rfl,if_pos rfl,hk,hk']
            · rw [if_neg e,if_neg e];rfl
          refine ⟨σ,Ent.refl _,.inr (.inl ⟨rfl,_,f,_,_,rfl,fun v σ1=>v=r∧σ1=⟨σ.tm,hupd σ.H k (.row (gen+1) esz []),σ.cnt⟩,?_,?_⟩)⟩
          · refine pst_poison ?_ hk' h1
            rw [he]
            show PRet P f ((a.map (Rd.get σ.tm)).map _) r
            rw [ha];exact h3
          · rintro v σ1 ⟨rfl,rfl⟩;exact hK
        · obtain rfl:=List.mem_singleton.1 hq;exact hk
        · obtain rfl:=List.mem_singleton.1 hq;exact List.mem_singleton.2 rfl
  | _=>exact h.elim
theorem vopsF_run {rid:Nat} {pz:Nat→Option Key} {los:List LOp} {fin:List Fk→Prop} {K:St→Prop}:∀ (ops:List LOp) (i:Nat),ops=los.drop i→i+ops.length=los.length→∀ (fs:List Fk) (σ:St),vopsF P rid pz fin ops i fs K σ →
    ∃ (ev:Nat→Ev) (gs:List Fk) (σe:St),(∀ k,i≤k→k<los.length→EvOk P (siteOf rid k) (loAt los k) (ev k)∧EvFk (ev k) (gs.getD (k - i) ⟨[],[]⟩))∧RunE rid (loAt los) ev (List.range' i ops.length) σ σe∧fin (fs++gs)∧K σe
  | [],i,hd,hn,fs,σ,h=>by
    refine ⟨fun _=>⟨.junk,[],none,false,fun _=>.junk,none⟩,[],σ,fun k h1 h2=>by simp at hn;omega,rfl,?_,h.2⟩
    rw [List.append_nil];exact h.1
  | p::ops,i,hd,hn,fs,σ,h=>by
    have one:∃ (f:Fk) (ev0:Ev) (σ1:St),vopsF P rid pz fin ops (i+1) (fs++[f]) K σ1∧EvOk P (siteOf rid i) p ev0∧rdyE (siteOf rid i) p ev0 σ∧apE (siteOf rid i) p.dst ev0 σ=σ1∧EvFk ev0 f:=by
      rw [vopsF] at h
      cases hp:pz i with
      | none =>
        rw [hp] at h
        obtain ⟨⟨h1,h2⟩,h3⟩:=h
        obtain ⟨σ1,hs,h3⟩:=vstep_iff.1 h3
        obtain ⟨ev0,v1,v2,v3,v4⟩:=ev_of_F h1 h2 hs
        exact ⟨_,ev0,σ1,h3,v1,v2,v3,v4⟩
      | some k =>
        rw [hp] at h
        obtain ⟨ev0,σ1,h3,v1,v2,v3,v4⟩:=ev_of_pz (s:=siteOf rid i) h
        exact ⟨_,ev0,σ1,h3,v1,v2,v3,v4⟩
    obtain ⟨f,ev0,σ1,h3,v1,v2,v3,v4⟩:=one
    have hd1:ops=los.drop (i+1):=by rw [← List.tail_drop,← hd];rfl
    have hlo:loAt los i=p:=by
      have:=congrArg (fun l=>l[0]?) hd
      simp only [List.getElem?_cons_zero,List.getElem?_drop,Nat.add_zero] at this
      simp only [loAt,List.getD_eq_getElem?_getD,← this,Option.getD_some]
    obtain ⟨ev,gs,σe,w1,w2,w3,w4⟩:=vopsF_run ops (i+1) hd1 (by simp only [List.length_cons] at hn;omega) _ σ1 h3
    refine ⟨fun k=>if k=i then ev0 else ev k,f::gs,σe,fun k k1 k2=>?_,?_,by rw [List.append_assoc] at w3;exact w3,w4⟩
    · by_cases hk:k=i
      · subst hk
        simp only [if_true,hlo,Nat.sub_self]
        exact ⟨v1,v4⟩
      · simp only [if_neg hk]
        obtain ⟨x1,x2⟩:=w1 k (by omega) k2
        have hs:k - i=(k - (i+1))+1:=by omega
        rw [hs,List.getD_cons_succ]
        exact ⟨x1,x2⟩
    · rw [List.length_cons,List.range'_succ]
      refine ⟨?_,?_⟩
      · simp only [if_true,hlo];exact v2
      · simp only [if_true,hlo,v3]
        refine runE_congr (fun j hj=>?_) w2
        have:=(List.mem_range'_1.1 hj).1
        rw [if_neg (by omega)]
theorem calmK {e:Ev} {f:Fk} (hf:EvFk e f) (h1:f.R=[]) (h2:f.W=[]):calm e:=by
  obtain ⟨f1,f2,f3,f4⟩:=hf
  have hw:e.w=none:=by
    cases hw':e.w with
    | none=>rfl
    | some q =>
      have:=f2 q.1 (by simp [kw,hw'])
      rw [h2] at this;cases this
  have hr:e.rd=[]:=by
    cases hr':e.rd with
    | nil=>rfl
    | cons q r =>
      have:=f1 q (by rw [hr'];exact List.mem_cons_self ..)
      rw [h1] at this;cases this
  exact ⟨hr,hw,f4 hw,f3⟩
theorem vregd_F {rid:Nat} {bs:List Nat} {pz:Nat→Option Key} {los:List LOp} {K:St→Prop} {σ:St} (h:vopsF P rid pz (fun fs=>dkOk bs los fs=true) los 0 [] K σ):vregd P rid bs los K σ:=by
  obtain ⟨ev,gs,σe,w1,w2,w3,w4⟩:=vopsF_run los 0 rfl (by simp) [] σ h
  rw [List.nil_append] at w3
  refine ⟨ev,fun i hi=>(w1 i (Nat.zero_le _) hi).1,fun i j hj hi hb=>?_,σe,by rw [List.range_eq_range'];exact w2,w4⟩
  have h1:=List.all_eq_true.1 w3 i (List.mem_range.2 hi)
  have h2:=List.all_eq_true.1 h1 j (List.mem_range.2 hj)
  rw [hb] at h2
  simp only [Bool.false_or,Bool.and_eq_true] at h2
  obtain ⟨a1,a2⟩:=h2
  obtain ⟨_,fi⟩:=w1 i (Nat.zero_le _) hi
  obtain ⟨_,fj⟩:=w1 j (Nat.zero_le _) (by omega)
  rw [Nat.sub_zero] at fi fj
  refine ⟨a1,?_⟩
  simp only [fkOk,Bool.or_eq_true,Bool.and_eq_true,List.isEmpty_iff] at a2
  rcases a2 with a2|a2|⟨b1,b2,b3⟩
  · exact .inr (.inl (calmK fj a2.1 a2.2))
  · exact .inr (.inr (.inl (calmK fi a2.1 a2.2)))
  · refine .inl ⟨fj.2.2.1,fi.2.2.1,fun k hk=>⟨fun hm=>?_,fun hm=>disjK_ok b2 k (fj.2.1 k hk) (fi.2.1 k hm)⟩,fun k hk hm=>?_⟩
    · obtain ⟨q,hq,rfl⟩:=List.mem_map.1 hm
      exact disjK_ok b1 _ (fj.2.1 _ hk) (fi.1 q hq)
    · obtain ⟨q,hq,rfl⟩:=List.mem_map.1 hm
      exact disjK_ok b3 _ (fi.2.1 _ hk) (fj.1 q hq)
theorem vcg_regd_of {rid:Nat} {bs:List Nat} {los:List LOp} {Q:Exit→St→Prop} {σ:St} (pz:Nat→Option Key) (h:vopsF P rid pz (fun fs=>dkOk bs los fs=true) los 0 [] (Q .normal) σ):vcg P (.regd rid bs los) Q σ:=vregd_F h
theorem vopsF_nil {rid i:Nat} {pz:Nat→Option Key} {fin:List Fk→Prop} {fs:List Fk} {K:St→Prop} {σ:St}:vopsF P rid pz fin [] i fs K σ=(fin fs∧K σ):=rfl
def vopsF1 (P:Program) (rid:Nat) (pz:Nat→Option Key) (fin:List Fk→Prop) (o:LOp) (os:List LOp) (i:Nat) (fs:List Fk) (K:St→Prop) (σ:St):Option Key→Prop
  | none=>(thereP σ.H (rdF o.op σ.tm)∧okF o.op σ)∧vstep P (siteOf rid i) o (vopsF P rid pz fin os (i+1) (fs++[⟨rdF o.op σ.tm,wrK o.op σ.tm (siteOf rid i) (σ.cnt (siteOf rid i))⟩]) K) σ
  | some k=>pzC P o k (vopsF P rid pz fin os (i+1) (fs++[⟨[k],[k]⟩]) K) σ
theorem vopsF_cons {rid i:Nat} {pz:Nat→Option Key} {fin:List Fk→Prop} {o:LOp} {os:List LOp} {fs:List Fk} {K:St→Prop} {σ:St}:vopsF P rid pz fin (o::os) i fs K σ=vopsF1 P rid pz fin o os i fs K σ (pz i):=by
  rw [vopsF,vopsF1.eq_def]
theorem vopsF1_none {rid i:Nat} {pz:Nat→Option Key} {fin:List Fk→Prop} {o:LOp} {os:List LOp} {fs:List Fk} {K:St→Prop} {σ:St}:vopsF1 P rid pz fin o os i fs K σ none=((thereP σ.H (rdF o.op σ.tm)∧okF o.op σ)∧vstep P (siteOf rid i) o (vopsF P rid pz fin os (i+1) (fs++[⟨rdF o.op σ.tm,wrK o.op σ.tm (siteOf rid i) (σ.cnt (siteOf rid i))⟩]) K) σ):=rfl
theorem vopsF1_some {rid i:Nat} {pz:Nat→Option Key} {fin:List Fk→Prop} {o:LOp} {os:List LOp} {fs:List Fk} {K:St→Prop} {σ:St} {k:Key}:vopsF1 P rid pz fin o os i fs K σ (some k)=pzC P o k (vopsF P rid pz fin os (i+1) (fs++[⟨[k],[k]⟩]) K) σ:=rfl
theorem pzC_call {f:FuncId} {a:List Rd} {d:Option Nat} {k:Key} {K:St→Prop} {σ:St}:pzC P ⟨d,.call f a,none⟩ k K σ=pzD P f (a.map (Rd.get σ.tm)) k d K σ (σ.H k):=propext ⟨fun h=>h.2,fun h=>⟨rfl,h⟩⟩
theorem pzD_row {f:FuncId} {args:List V} {d:Option Nat} {k:Key} {K:St→Prop} {σ:St} {g esz:Nat} {cs:List V}:pzD P f args k d K σ (some (.row g esz cs))=((k.1<PK∧args.all (sok (hRes σ.H [k]) 8)=true)∧∃ r,PRet P f (args.map (snap (hRes σ.H [k]) 8)) r∧K (St.put ⟨σ.tm,hupd σ.H k (.row (g+1) esz []),σ.cnt⟩ d r)):=rfl
end
theorem kv_sl (n:Nat) (cs:List V):keysV (.sl n cs)=[]:=rfl
theorem kv_agg (cs:List V):keysV (.agg cs)=[]:=rfl
theorem kv_tup (cs:List V):keysV (.tup cs)=[]:=rfl
theorem kv_int (k:IntKind) (n:Int):keysV (.int k n)=[]:=rfl
theorem kv_bool (b:Bool):keysV (.bool b)=[]:=rfl
theorem kv_str (b:ByteArray):keysV (.str b)=[]:=rfl
theorem kv_e0:keysV .e0=[]:=rfl
theorem kv_ip (cs:List V) (o:Nat):keysV (.ip cs o)=[]:=rfl
theorem kv_im (cs:List (V × V)):keysV (.im cs)=[]:=rfl
theorem kv_nilp:keysV .nilp=[]:=rfl
theorem kv_nili:keysV .nili=[]:=rfl
theorem kv_ifc (t:TypeId) (v:V):keysV (.ifc t v)=[]:=rfl
theorem kv_msl (k:Key) (g o n:Nat):keysV (.msl k g o n)=[k]:=rfl
theorem kv_mp (k:Key) (g o:Nat):keysV (.mp k g o)=[k]:=rfl
theorem kv_mm (k:Key):keysV (.mm k)=[k]:=rfl
theorem kv_junk:keysV .junk=[]:=rfl
theorem some_ex1 {α:Type} (a:α):(∃ o,some a=some o)=True:=propext ⟨fun _=>trivial,fun _=>⟨a,rfl⟩⟩
end Go.Lg

namespace Go.Proofs.YtlnphjjhfgghkaaGreatDoor
open Go Go.Lg Go.RowKit
set_option maxRecDepth 20000
theorem tells_ret (k i:Int):PRet Tryz.prog 35 [fltE k i] (.tup [.int .i64 k,.int .i64 i]):=by
  refine pret_intro fdt35 (by simp) ?_
  rw [fltE]
  simp only [lct35,VCA,simprocAttr,encL,MCA,TTA,LDA,List.mapM_cons,List.mapM_nil,Option.pure_def,Option.bind_eq_bind,Option.bind_some,Option.map_some,some_ex]
  refine loop_vcg (ι:=Nat→Nat) (fun c=>stO [(4,.val (.ip [.int .i64 k,.int .i64 i,.ifc 75 (.int .i64 k)] 0)),(6,.val (.int .i64 k)),(7,.val (.int .i64 i)),(8,.val (.int .i64 0))] c)
    (fun _=>True) (fun _=>0) _ trivial (ent_of _ [] rfl rfl (by simp only [VCA,simprocAttr,encL,MCA,TTA,LDA])) ?_
  rintro c -
  simp only [VCA,simprocAttr,encL,MCA,TTA,LDA,List.mapM_cons,List.mapM_nil,Option.pure_def,Option.bind_eq_bind,Option.bind_some,Option.map_some,some_ex,EXA]
theorem is_ret (k i a b:Int):PRet Tryz.prog 13 [fltE k i,.int .i64 a,.int .i64 b] (.bool (decide (k=a) && decide (i=b))):=by
  have ht:=tells_ret k i
  refine pret_intro fdt13 (by simp) ?_
  rw [fltE] at *
  simp only [lct13,VCA,simprocAttr,encL,MCA,TTA,LDA,List.mapM_cons,List.mapM_nil,Option.pure_def,Option.bind_eq_bind,Option.bind_some,Option.map_some,some_ex]
  refine callX_of ht (.inl rfl) ?_
  simp only [VCA,simprocAttr,encL,MCA,TTA,LDA,List.mapM_cons,List.mapM_nil,Option.pure_def,Option.bind_eq_bind,Option.bind_some,Option.map_some,some_ex]
  cases decide (k=a)<;>simp only [VCA,simprocAttr,encL,MCA,TTA,LDA,List.mapM_cons,List.mapM_nil,Option.pure_def,Option.bind_eq_bind,Option.bind_some,Option.map_some,some_ex,Bool.false_and,Bool.true_and]
end Go.Proofs.YtlnphjjhfgghkaaGreatDoor

namespace Go.Proofs.YtlnphjjhfgghkaaGreatDoor
open Go Go.Lg Go.Lg.Sh
set_option maxRecDepth 100000
def lctj6:LC:=z (r 0 [o 2 0,b0 4]) (K [1,2] (z (z (r 1 [L 13 2 2,c 14 21 13]) (K [1,2,14] (y 14 (K [] (z (r 2 [⟨some 15,.call 9 [],none⟩,m 4 15]) .ret)) .skip))) (K [1,2] (z (r 3 [L 17 2 2,⟨some 18,.call 11 [.con (.str { data:=#[113] }),.con .e0,.tmp 17],none⟩,m 16 18,X 19 16 0,X 20 16 1,m 5 19,m 6 20]) (K [1,2,6] (z (z (r 4 [m 21 6,⟨some 22,.eqi true true (.tmp 21) (.con .nili),none⟩,m 23 22,g 23 (f 24 0 2),g 23 (l 25 1 24),g 23 (n 26 25),g 23 (e 27 26 0),q 28 23 27,m 29 28,g 29 (f 30 0 2),g 29 (l 31 1 30),g 29 (n 32 31),⟨some 33,.bin .gtr (.tmp 32) (.con (.int .i64 200)),some ⟨29,false⟩⟩,q 34 29 33]) (K [1,2,34] (y 34 (K [] (z (r 5 [⟨some 35,.call 9 [],none⟩,m 4 35]) .ret)) .skip))) (K [1,2] (z (.reg 6 [m 36 1,f 37 0 2,l 38 1 37,n 39 38,⟨some 40,.bin .rem (.tmp 36) (.tmp 39),none⟩,f 41 0 2,l 42 1 41,n 43 42,⟨some 44,.bin .add (.tmp 40) (.tmp 43),none⟩,f 45 0 2,l 46 1 45,n 47 46,⟨some 48,.bin .rem (.tmp 44) (.tmp 47),none⟩,m 7 48]) (K [2,7] (z (r 7 [f 50 0 2,l 51 1 50,m 52 7,a 53 52 1,⟨some 54,.slV 5 (.tmp 51) none (some (.tmp 53)),none⟩,⟨some 55,.build [.e0,.e0] [⟨0,1,.tmp 54⟩],none⟩,⟨some 56,.call 11 [.con (.str { data:=#[113] }),.con .e0,.tmp 55],none⟩,m 49 56,X 57 49 0,X 58 49 1,m 8 57,m 9 58]) (K [2,7,9] (z (r 8 [f 59 0 2,l 60 1 59,m 61 7,x 62 5 60 61,L 63 5 62,⟨some 10,.new [.bool false,.str { data:=#[] },.e0,.e0,.int .i64 0],none⟩,W 5 10 63]) (K [2,9,10] (z (r 9 [f 64 4 10,⟨none,.store 1 (.tmp 64) (.con (.int .i64 77)),none⟩]) (K [2,9,10] (z (.rege 10 [0,0,2,7,0,16,63,127,255,511,1023,1023,2047,8191] [⟨some 66,.bsl 0 [] [],none⟩,f 67 0 2,l 68 1 67,⟨some 69,.appE 5 80 (.tmp 66) (.tmp 68),none⟩,L 70 5 10,⟨some 71,.bsl 1 [.bool false,.str { data:=#[] },.e0,.e0,.int .i64 0] [⟨0,5,.tmp 70⟩],none⟩,⟨some 72,.app 5 80 (.tmp 69) (.tmp 71),none⟩,⟨some 73,.build [.e0,.e0] [⟨0,1,.tmp 72⟩],none⟩,⟨some 74,.call 11 [.con (.str { data:=#[113] }),.con .e0,.tmp 73],none⟩,m 65 74,X 75 65 0,X 76 65 1,m 11 75,m 12 76]) (K [9,12] (z (r 11 [⟨some 77,.call 9 [],none⟩,m 78 77,h 78 (m 79 9),⟨some 80,.eqi false true (.tmp 79) (.con .nili),some ⟨78,true⟩⟩,p 81 78 80,m 82 81,h 82 (m 83 12),⟨some 84,.call 13 [.tmp 83,.con (.int .i64 23),.con (.int .i64 77)],some ⟨82,true⟩⟩,p 85 82 84,m 4 85]) .ret))))))))))))))))))
theorem fdtj6:fnData Tryz.prog 6=some (86,lctj6.erase,[LRV.tmp 4]):=by kernel_rfl
end Go.Proofs.YtlnphjjhfgghkaaGreatDoor

namespace Go.Lg
open Go Go.RowKit
theorem ST.snaps (H:Heap) (d:Nat) (l:List ST):(l.flatMap ST.cells).map (snap H (d+1))=l.flatMap ST.cells:=by
  induction l with
  | nil=>rfl
  | cons x r ih=>rw [List.flatMap_cons,List.map_append,ih,ST.snapc]
theorem ST.soks (H:Heap) (d:Nat) (l:List ST):(l.flatMap ST.cells).all (sok H (d+1))=true:=by
  induction l with
  | nil=>rfl
  | cons x r ih=>rw [List.flatMap_cons,List.all_append,ih,ST.sokc];rfl
theorem ST.ones (l:List ST):(l.flatMap ST.cells).all V.one=true:=by
  induction l with
  | nil=>rfl
  | cons x r ih=>rw [List.flatMap_cons,List.all_append,ih,ST.onec];rfl
section
variable {P:Program}
theorem PRetR.exact {f:FuncId} {args:List V} {R:V→Prop} {r:V} (h:PRetR P f args R) (hr:∀ v,R v→v=r):PRet P f args r:=by
  refine ⟨h.1,fun imm w vs h1 h2 h3=>(h.2 imm w vs h1 h2 h3).mono ?_⟩
  rintro e w' ⟨v,imm',r',e1,e2,e3,e4,e5,e6⟩
  exact ⟨v,imm',e1,hr r' e6▸e2,e3,e4,e5⟩
theorem vcg_regeF_of {rid:Nat} {bs:List Nat} {los:List LOp} {Q:Exit→St→Prop} {σ:St} (pz:Nat→Option Key) (h:vopsF P rid pz (fun fs=>dkOk bs los fs=true) los 0 [] (Q .normal) σ):vcg P (.rege rid bs los) Q σ:=by
  have:=vcg_regd_of (P:=P) (rid:=rid) (bs:=bs) (los:=los) (Q:=Q) (σ:=σ) pz h
  exact this
end
end Go.Lg
namespace Go.Proofs.YtlnphjjhfgghkaaGreatDoor
open Go Go.Lg Go.RowKit
set_option maxRecDepth 20000
theorem phS_app:∀ {l r M:List ST},phS M l=none→phS M (l++r)=phS (M++l) r
  | [],r,M,_=>by rw [List.nil_append,List.append_nil]
  | s::l,r,M,h=>by
    rw [phS] at h
    split at h
    · rename_i h0
      rw [List.cons_append,phS,if_pos h0,phS_app h,List.append_assoc];rfl
    · cases h
theorem phS_take:∀ {l M:List ST} (j:Nat),phS M l=none→phS M (l.take j)=none
  | [],M,j,h=>by rw [List.take_nil];rfl
  | s::l,M,0,h=>rfl
  | s::l,M,j+1,h=>by
    rw [phS] at h
    split at h
    · rename_i h0
      rw [List.take_succ_cons,phS,if_pos h0,phS_take j h]
    · cases h
theorem lkS_some {x:ByteArray}:∀ {M:List ST} {s:ST},s∈M→s.name=x→(lkS M x).isSome=true
  | p::r,s,h,hx=>by
    rw [lkS]
    by_cases e:x=p.name
    · rw [if_pos e];rfl
    · rw [if_neg e]
      rcases List.mem_cons.1 h with rfl|h
      · exact absurd hx.symm e
      · exact lkS_some h hx
def QN:ByteArray:=⟨#[113]⟩
theorem qn_name:nameB QN=true:=by decide
theorem qn_size:QN.size≤SB:=by decide
theorem front_again {c:CR} {s:ST} (h:okN c) (hs:s∈c.structs) (hl:c.structs.length≤200):∀ v,newR QN ⟨c.structs++[{ s with at':=77 }],[]⟩ v→v = .tup [.nilp,fltE 23 77]:=by
  have hp:phS [] (c.structs++[{ s with at':=77 }])=some (23,77):=by
    rw [phS_app h.2.1,List.nil_append,phS]
    have e:newS c.structs { s with at':=77 } = 23:=by
      have e0:(lkS c.structs ({ s with at':=77 }:ST).name).isSome=true:=lkS_some hs rfl
      rw [newS,e0];rfl
    rw [e];rfl
  have hst:struktB { s with at':=77 } = true:=List.all_eq_true.1 h.1.2.1 s hs
  rintro v (⟨_,h2⟩|⟨k,i,h1,rfl,h3⟩)
  · have:=h2.2.1
    rw [hp] at this;cases this
  · have:=h3 qn_name ⟨by rw [List.length_append];simp;omega,by rw [List.all_append,h.1.2.1];simp [hst],rfl⟩
    rw [hp] at this
    cases this;rfl
theorem front_front {c:CR} (h:okN c) (j:Nat):∀ v,newR QN ⟨c.structs.take j,[]⟩ v→v = .tup [.ip [.im (smM (c.structs.take j)),.im (fnM [])] 0,.nili]:=by
  rintro v (⟨rfl,_⟩|⟨k,i,h1,rfl,h3⟩)
  · rfl
  · have hm:=h.1
    have:=h3 qn_name ⟨by show (List.take j c.structs).length≤256;rw [List.length_take];have:=hm.1;omega,List.all_eq_true.2 fun s hs=>List.all_eq_true.1 hm.2.1 s (List.mem_of_mem_take hs),rfl⟩
    rw [phS_take j h.2.1] at this
    cases this
theorem new_e0 (c:CR) (hc:c.ok):PRetR Tryz.prog 11 [.str QN,.e0,.agg c.cells] (newR QN c) :=
  PRetR.nz 1 (by simp only [List.map_cons,List.map_nil,nz,nz_agg,List.map_id']) (new_rel QN qn_size c hc)
theorem nf_front {c:CR} (hc:c.ok) (h:okN c) (j:Nat):PRet Tryz.prog 11 [.str QN,.e0,.agg [encL ST.cells (c.structs.take j),.e0]] (.tup [.ip [.im (smM (c.structs.take j)),.im (fnM [])] 0,.nili]):=by
  have hc2:CR.ok ⟨c.structs.take j,[]⟩:=⟨⟨⟨by have:=hc.1.1.1;show (List.take j c.structs).length≤SB;rw [List.length_take];omega,fun s hs=>hc.1.1.2 s (List.mem_of_mem_take hs)⟩,by show 0≤SB;exact Nat.zero_le _,fun _ h=>by cases h⟩,fun _ h=>by cases h⟩
  have q:=(new_rel QN qn_size ⟨c.structs.take j,[]⟩ hc2).exact (front_front h j)
  rw [CR.cells_eq] at q
  exact PRet.nz 2 (by simp only [List.map_cons,List.map_nil,nz,nz_agg,List.map_id',encL,List.length_nil,List.flatMap_nil]) q
theorem nf_again {c:CR} {s:ST} (hc:c.ok) (h:okN c) (hs:s∈c.structs) (hl:c.structs.length≤200):PRet Tryz.prog 11 [.str QN,.e0,.agg [encL ST.cells (c.structs++[{ s with at':=77 }]),.e0]] (.tup [.nilp,fltE 23 77]):=by
  have hsm:ST.sm { s with at':=77 }:=by
    obtain ⟨a,b,d,_⟩:=hc.1.1.2 s hs
    exact ⟨a,b,d,by show InI64 77;unfold InI64;decide⟩
  have hc2:CR.ok ⟨c.structs++[{ s with at':=77 }],[]⟩:=⟨⟨⟨by show (c.structs++[_]).length≤SB;rw [List.length_append,sb_eq];simp;omega,fun x hx=>by
    rcases List.mem_append.1 hx with hx|hx
    · exact hc.1.1.2 x hx
    · rw [List.mem_singleton.1 hx];exact hsm⟩,by show 0≤SB;exact Nat.zero_le _,fun _ h=>by cases h⟩,fun _ h=>by cases h⟩
  have q:=(new_rel QN qn_size ⟨c.structs++[{ s with at':=77 }],[]⟩ hc2).exact (front_again h hs hl)
  rw [CR.cells_eq] at q
  exact PRet.nz 2 (by simp only [List.map_cons,List.map_nil,nz,nz_agg,List.map_id',encL,List.length_nil,List.flatMap_nil]) q
theorem scopeFront_ret (c:CR) (hc:c.ok) (n:Int) (hn:InI64 n):PRet Tryz.prog 6 [.agg c.cells,.int .i64 n] (.bool true):=by
  have hg:=great_rel c hc
  have hnew:=new_e0 c hc
  have htd:=told_ret
  have hlen:=hc.1.1.1
  rw [sb_eq] at hlen
  rw [QN] at hnew
  refine pret_intro fdtj6 (by simp) ?_
  simp only [lctj6,VCA,simprocAttr,encL,MCA,CRA]
  refine callRF_of hg (fun r hr=>?_) (by simp only [VCA,simprocAttr,encL,MCA,CRA]) (fun _=>boV_flat)
  obtain ⟨b,rfl,-⟩:=hr
  cases b
  case true =>
    simp only [VCA,simprocAttr,encL,MCA]
    refine callX_of htd (.inl rfl) ?_
    simp only [VCA,simprocAttr,encL,MCA]
  simp only [VCA,simprocAttr,encL,MCA,CRA]
  refine callR_of hnew (fun v hv=>?_) (by simp only [VCA,simprocAttr,encL,MCA,CRA])
  rcases hv with ⟨rfl,hok⟩|⟨k,i,h1,rfl,-⟩
  case inr =>
    simp only [VCA,simprocAttr,encL,MCA,List.mapM_cons,List.mapM_nil,Option.pure_def,Option.bind_eq_bind,Option.bind_some,Option.map_some,some_ex,LDA,fltE,CRA]
    refine callX_of htd (.inl rfl) ?_
    simp only [VCA,simprocAttr,encL,MCA]
  have z0:decide ((c.structs.length:Int)=0)=decide (c.structs.length=0):=by rw [Bool.eq_iff_iff,decide_eq_true_eq,decide_eq_true_eq];omega
  by_cases h0:c.structs.length=0
  · simp only [VCA,simprocAttr,encL,MCA,List.mapM_cons,List.mapM_nil,Option.pure_def,Option.bind_eq_bind,Option.bind_some,Option.map_some,some_ex,LDA,CRA,z0,h0,decide_true]
    refine callX_of htd (.inl rfl) ?_
    simp only [VCA,simprocAttr,encL,MCA]
  by_cases h2:200<c.structs.length
  · have h2':(200:Int)<c.structs.length:=by omega
    simp only [VCA,simprocAttr,encL,MCA,List.mapM_cons,List.mapM_nil,Option.pure_def,Option.bind_eq_bind,Option.bind_some,Option.map_some,some_ex,LDA,CRA,z0,h0,decide_false,h2',decide_true]
    refine callX_of htd (.inl rfl) ?_
    simp only [VCA,simprocAttr,encL,MCA]
  have h2':¬ (200:Int)<c.structs.length:=by omega
  have h0':¬ (c.structs.length:Int)=0:=by omega
  simp only [VCA,simprocAttr,encL,MCA,List.mapM_cons,List.mapM_nil,Option.pure_def,Option.bind_eq_bind,Option.bind_some,Option.map_some,some_ex,LDA,CRA,z0,h0,h0',decide_false,h2']
  have hL:(0:Int)<c.structs.length:=by omega
  have m1:=Int.lt_tmod_of_pos n hL
  have m2:=Int.tmod_lt_of_pos n hL
  have m3:=Int.tmod_nonneg (a:=n.tmod c.structs.length+c.structs.length) c.structs.length (by omega)
  have m4:=Int.tmod_lt_of_pos (n.tmod c.structs.length+c.structs.length) hL
  obtain ⟨k,hk⟩:∃ k:Nat,(n.tmod c.structs.length+c.structs.length).tmod c.structs.length=k:=⟨_,(Int.toNat_of_nonneg m3).symm⟩
  have hi:InI64 (n.tmod c.structs.length+c.structs.length):=by unfold InI64;omega
  rw [hk] at m3 m4 ⊢
  have hkl:k<c.structs.length:=by omega
  have hk1:InI64 ((k:Int)+1):=by unfold InI64;omega
  have e1:((k:Int)+1).toNat=k+1:=by omega
  have e2:(k+1)*5≤(c.structs.flatMap ST.cells).length:=by rw [flat_len ST.len];exact Nat.mul_le_mul_right 5 hkl
  have e3:(c.structs.flatMap ST.cells).take ((k+1)*5)=(c.structs.take (k+1)).flatMap ST.cells:=flat_tk (f:=ST.cells) (s:=5) ST.len c.structs (k+1)
  have hfr:=nf_front hc hok (k+1)
  have hag:=nf_again hc hok (List.getElem_mem hkl) (by omega)
  have hld:=ST.ld0 (l:=c.structs) (i:=k) (n:=5) (agg:=true) hkl (by decide) (by decide)
  rw [ST.call] at hld
  have e4:(c.structs.take (k+1)).length=k+1:=by rw [List.length_take];omega
  rw [encL,e4] at hfr
  rw [QN] at hfr hag
  generalize c.structs[k]=s at *
  rw [e1,e3]
  refine ⟨h0',hi,h0',hk1,⟨by omega,by omega,e2⟩,?_⟩
  have hst2:∀ v,setCells [V.e0,.e0] 0 [v]=[v,.e0]:=fun _=>rfl
  simp only [VCA,simprocAttr,encL,MCA,List.mapM_cons,List.mapM_nil,Option.pure_def,Option.bind_eq_bind,Option.bind_some,Option.map_some,some_ex,LDA,hst2]
  refine callX_of hfr (.inl rfl) ?_
  have ii:0≤(k:Int)∧(k:Int)<c.structs.length:=by omega
  have h77:setCells s.cells 4 [V.int .i64 77]=({ s with at':=77 }:ST).cells:=by rw [ST.cells,ST.cells];rfl
  obtain ⟨ag,hagd⟩:∃ ag:ST,ag = { s with at':=77 }:=⟨_,rfl⟩
  rw [← hagd] at h77 hag
  simp only [VCA,simprocAttr,encL,MCA,List.mapM_cons,List.mapM_nil,Option.pure_def,Option.bind_eq_bind,Option.bind_some,Option.map_some,some_ex,LDA,CRA,ii,hld,st_setA,ST.len,ST.call,ST.onec,h77]
  have hsz:c.structs.length*80≤140737488355328∧c.structs.length≤4611686018427387904:=by omega
  have hsz2:(c.structs.length+1)*80≤140737488355328∧c.structs.length+1≤4611686018427387904:=by omega
  have hln:(c.structs.flatMap ST.cells).length=c.structs.length*5:=flat_len ST.len c.structs
  have hcat:c.structs.flatMap ST.cells++ag.cells=(c.structs++[ag]).flatMap ST.cells:=by rw [List.flatMap_append];simp
  have hle:(c.structs.length+1)*5≤((c.structs++[ag]).flatMap ST.cells).length:=by rw [flat_len ST.len];simp
  have htw:((c.structs++[ag]).flatMap ST.cells).take ((c.structs.length+1)*5)=(c.structs++[ag]).flatMap ST.cells:=List.take_of_length_le (by rw [flat_len ST.len];simp)
  have hl1:(c.structs++[ag]).length=c.structs.length+1:=by simp
  rw [encL,hl1] at hag
  refine vcg_regeF_of (fun i=>if i=8 then some (40963,0) else none) ?_
  simp only [VCA,simprocAttr,encL,MCA,TTA,LDA,vopsF_cons,vopsF_nil,vopsF1_none,vopsF1_some,pzC_call,pzD_row,okF,rdF,rdK,wrK,thereP,hRes_cons,hRes_nil,dynOp,IOp.cls,List.flatMap_cons,List.flatMap_nil,List.append_nil,List.nil_append,List.append_assoc,kv_sl,kv_agg,kv_tup,kv_int,kv_bool,kv_str,kv_e0,kv_ip,kv_im,kv_nilp,kv_nili,kv_ifc,kv_msl,kv_mp,kv_mm,kv_junk,some_ex1,hst2,CRA,hln,hsz,hsz2,ST.len,ST.call,ST.onec,st_setA,hcat,hle,htw,decide_true,Bool.true_and,if_true,ST.snaps,ST.soks,ST.ones]
  refine ⟨_,hag,?_⟩
  simp only [VCA,simprocAttr,encL,MCA,TTA,LDA,vopsF_cons,vopsF_nil,vopsF1_none,vopsF1_some,pzC_call,pzD_row,okF,rdF,rdK,wrK,thereP,hRes_cons,hRes_nil,dynOp,IOp.cls,List.flatMap_cons,List.flatMap_nil,List.append_nil,List.nil_append,List.append_assoc,kv_sl,kv_agg,kv_tup,kv_int,kv_bool,kv_str,kv_e0,kv_ip,kv_im,kv_nilp,kv_nili,kv_ifc,kv_msl,kv_mp,kv_mm,kv_junk,some_ex1,List.mapM_cons,List.mapM_nil,Option.pure_def,Option.bind_eq_bind,Option.bind_some,Option.map_some,some_ex]
  refine ⟨by decide,?_⟩
  refine callX_of htd (.inl rfl) ?_
  have his:=is_ret 23 77 23 77
  rw [fltE] at his
  simp only [VCA,simprocAttr,encL,MCA,LDA,List.mapM_cons,List.mapM_nil,Option.pure_def,Option.bind_eq_bind,Option.bind_some,Option.map_some,some_ex,fltE]
  refine callX_of his (.inl rfl) ?_
  simp only [VCA,simprocAttr,encL,MCA,decide_true,Bool.and_self]
end Go.Proofs.YtlnphjjhfgghkaaGreatDoor

namespace Go.Proofs.YtlnphjjhfgghkaaGreatDoor
open Go Go.Lg Go.RowKit Go.ChangeShapes Go.WideShapes Go.ChangeAt
theorem own:ownKnob Tryz.prog.godebug=none:=by kernel_rfl
theorem laidOut:laidOutB Tryz.prog=true:=by kernel_rfl
theorem et:Tryz.prog.globalNamed "errors.errorType" = some 0:=by kernel_rfl
theorem rt:(Tryz.prog.cutTypes.find? (·.1 == "internal/reflectlite.rtype")).map (·.2)=some 194:=by kernel_rfl
theorem oneRow:((List.range Tryz.prog.types.size).filter fun t=>Tryz.prog.rowNamed t [101,114,114,111,114])=[33]:=by kernel_rfl
theorem handle_of_laid {W:World} (h:laidMetH Tryz.prog Rows.scopeOverRow.laid W):W.cell? ⟨0,0,none⟩=some (.iface 194 (.agg #[.pointer (some ⟨2,33,none⟩)])):=by
  have h':laidMet Tryz.prog [] W∧handlesMet Tryz.prog Rows.scopeOverRow.laid W:=h
  obtain ⟨name,u,ty,e1,e2,e3,e4,e5⟩:=h'.2 _ (List.mem_singleton.2 rfl)
  have en:name=[101,114,114,111,114]:=(Option.some.inj e1).symm
  subst en
  obtain rfl:=Option.some.inj (rt.symm.trans e2)
  have hm:ty∈(List.range Tryz.prog.types.size).filter fun t=>Tryz.prog.rowNamed t [101,114,114,111,114]:=List.mem_filter.2 ⟨List.mem_range.2 e3,e4⟩
  rw [oneRow] at hm
  obtain rfl:=List.mem_singleton.1 hm
  have hh:typeHandle Tryz.prog 33 = .pointer (some ⟨2,33,none⟩):=by kernel_rfl
  rw [hh] at e5
  simpa using World.var?_cell et e5 0
theorem lt_of_cell {W:World} {b:Nat} {v:Value} (h:W.cell? ⟨b,0,none⟩=some v):b<W.heap.size:=by
  rcases Nat.lt_or_ge b W.heap.size with h1|h1
  · exact h1
  · simp [World.cell?,Array.getElem?_eq_none h1] at h
theorem gok {W:World} (h:laidMetH Tryz.prog Rows.scopeOverRow.laid W) (hsh:W.ShapedOpen Tryz.prog):GOk Tryz.prog W:=by
  have h1:=handle_of_laid h
  obtain ⟨m,hm⟩:∃ m,W.cell? ⟨1,0,none⟩=some (.int .i64 m):=Tryz.laysM144.s1_3 W hsh
  intro p hp
  rw [gl_eq] at hp
  rcases List.mem_cons.1 hp with rfl|hp
  · exact ⟨lt_of_cell hm,m,hm⟩
  · obtain rfl:=List.mem_singleton.1 hp
    exact ⟨lt_of_cell h1,h1⟩
noncomputable def laidWorld (os:Os):World :=
  let w0:=World.holding Tryz.prog os ⟨#[],#[],[]⟩
  { w0 with heap:=w0.heap.modify 0 fun
      | .cells _ t frozen=>.cells #[.iface 194 (.agg #[.pointer (some ⟨2,33,none⟩)])] t frozen
      | o=>o }
theorem laidWorld_met (os:Os) (args:Array Value):laidMetH Tryz.prog Rows.scopeOverRow.laid ((laidWorld os).forCall (fun _ _=>0) ⟨#[],args,[]⟩).memory :=
  laidMetH_of_parts (laidMet_nil _ _) (by kernel_rfl)
end Go.Proofs.YtlnphjjhfgghkaaGreatDoor

namespace Go.Lg
open Go Go.RowKit Go.Proofs.YtlnphjjhfgghkaaGreatDoor.Rows
mutual
def vb:V→Nat
  | .str s=>s.size+1
  | .sl _ cs=>vbL cs+1
  | _=>1
def vbL:List V→Nat
  | []=>0
  | c::r=>vb c+vbL r
end
theorem vbL_app:∀ a b:List V,vbL (a++b)=vbL a+vbL b
  | [],b=>by simp [vbL]
  | c::a,b=>by rw [List.cons_append,vbL,vbL,vbL_app a b];omega
theorem vbL_flat {α:Type} (f:α→List V):∀ l:List α,vbL (l.flatMap f)=(l.map fun x=>vbL (f x)).sum
  | []=>rfl
  | x::r=>by rw [List.flatMap_cons,vbL_app,vbL_flat f r,List.map_cons,List.sum_cons]
section
variable {H:Type}
theorem bulk_pos (d:DataW H):1≤uptoBulk d:=by
  cases d with
  | lit l=>cases l<;>simp [uptoBulk]
  | _=>simp [uptoBulk]
theorem bulkAll_app:∀ a b:List (DataW H),uptoBulkAll (a++b)=uptoBulkAll a+uptoBulkAll b
  | [],b=>by simp [uptoBulkAll]
  | c::a,b=>by rw [List.cons_append,uptoBulkAll,uptoBulkAll,bulkAll_app a b];omega
end
section
variable {P:Program} {H:Type} {enc:TypeId × Value→H} {w:World}
theorem fields_repU {fuel:Nat} (ih:∀ (t:TypeId) (cs:List Value) (d:DataW H) (p:List MemPlace),t<P.types.size→DataW.trod enc P w 0 (fun _=>true) true fuel t cs=some (d,p)→∃ xs,Ty P t xs∧CellsRep w cs xs∧vbL xs≤uptoBulk d) (cs:List Value) :
    ∀ (fs:List Field) (ys:List (DataW H × List MemPlace)) (o n:Nat),(∀ f∈fs,f.type<P.types.size)→tileF P o fs=some n→n≤cs.length→ys.length=fs.length→(∀ (i:Nat) (f:Field),fs[i]? = some f→DataW.trod enc P w 0 (fun _=>true) true fuel f.type ((cs.drop f.offset).take (P.cellsOf f.type))=ys[i]?) →
      ∃ xs,o≤n∧CellsRep w ((cs.drop o).take (n - o)) xs∧vbL xs≤uptoBulkAll (ys.map (·.1))∧∀ f∈fs,o≤f.offset∧Ty P f.type ((xs.drop (f.offset - o)).take (P.cellsOf f.type))
  | [],ys,o,n,_,ht,hn,_,_=>by
    cases ht
    exact ⟨[],Nat.le_refl _,⟨by simp,fun j v x h=>by simp at h⟩,by simp [vbL],fun f h=>by cases h⟩
  | f::r,[],o,n,_,_,_,hl,_=>by simp at hl
  | f::r,y::ys,o,n,hin,ht,hn,hl,hf=>by
    simp only [tileF] at ht
    split at ht
    case isFalse=>cases ht
    rename_i hoff
    obtain ⟨xs',hle,hrep,hbk,hty⟩:=fields_repU ih cs r ys _ n (fun f hm=>hin f (List.mem_cons_of_mem _ hm)) ht hn (by simpa using hl) fun i g hi=>by
      have:=hf (i+1) g (by simpa using hi)
      simpa using this
    have hx:=hf 0 f rfl
    obtain ⟨d,p⟩:=y
    have hx:DataW.trod enc P w 0 (fun _=>true) true fuel f.type ((cs.drop f.offset).take (P.cellsOf f.type))=some (d,p):=hx
    obtain ⟨zs,hyt,hyr,hyb⟩:=ih _ _ _ _ (hin f (List.mem_cons_self ..)) hx
    rw [hoff] at hx hyr
    have hyl:zs.length=P.cellsOf f.type:=by
      rw [hyr.1,List.length_take,List.length_drop];omega
    have hsplit:(cs.drop o).take (n - o)=(cs.drop o).take (P.cellsOf f.type)++(cs.drop (o+P.cellsOf f.type)).take (n - (o+P.cellsOf f.type)):=by
      have e1:n - o=P.cellsOf f.type+(n - (o+P.cellsOf f.type)):=by omega
      rw [e1,List.take_add,List.drop_drop]
    refine ⟨zs++xs',by omega,?_,?_,fun g hg=>?_⟩
    · rw [hsplit]
      refine ⟨by rw [List.length_append,List.length_append,hyr.1,hrep.1],fun j v x hv hx'=>?_⟩
      have hl:((cs.drop o).take (P.cellsOf f.type)).length=zs.length:=hyr.1.symm
      rw [List.getElem?_append,hl] at hv
      rw [List.getElem?_append] at hx'
      split at hv
      · rename_i hlt;rw [if_pos hlt] at hx';exact hyr.2 j v x hv hx'
      · rename_i hlt;rw [if_neg hlt] at hx';exact hrep.2 _ v x hv hx'
    · rw [vbL_app,List.map_cons,uptoBulkAll]
      simp only []
      omega
    · rcases List.mem_cons.1 hg with rfl|hg
      · refine ⟨by omega,?_⟩
        rw [hoff,Nat.sub_self,List.drop_zero,List.take_append_of_le_length (by omega),List.take_of_length_le (by omega)]
        exact hyt
      · obtain ⟨h1,h2⟩:=hty g hg
        refine ⟨by omega,?_⟩
        rw [List.drop_append,List.drop_eq_nil_of_le (by omega),List.nil_append,show g.offset - o - zs.length=g.offset - (o+P.cellsOf f.type) by omega]
        exact h2
theorem range_get {α:Type} {x:α}:∀ {l:List α} {n:Nat},l.length=n→(List.range n).map (fun i=>(l[i]?).getD x)=l:=by
  rintro l n rfl
  refine List.ext_getElem (by simp) fun i h1 h2=>?_
  simp only [List.getElem_map,List.getElem_range]
  rw [List.getElem?_eq_getElem h2];rfl
theorem elems_repU {e s:Nat}:∀ (n:Nat) (get:Nat→List Value) (bk:Nat→DataW H),(∀ i,i<n→(get i).length=s∧∃ xs,Ty P e xs∧CellsRep w (get i) xs∧vbL xs≤uptoBulk (bk i)) →
    ∃ xs,CellsRep w ((List.range n).flatMap get) xs∧xs.length=n*s∧vbL xs≤uptoBulkAll ((List.range n).map bk)∧∀ i,i<n→Ty P e ((xs.drop (i*s)).take s)
  | 0,get,bk,_=>⟨[],⟨rfl,fun j v x h=>by simp at h⟩,by simp,by simp [vbL],fun i h=>by omega⟩
  | n+1,get,bk,h=>by
    obtain ⟨xs,h1,h2,hb,h3⟩:=elems_repU n get bk fun i hi=>h i (by omega)
    obtain ⟨hl,ys,hy1,hy2,hyb⟩:=h n (by omega)
    have hyl:ys.length=s:=by rw [hy2.1,hl]
    rw [List.range_succ,List.flatMap_append,List.map_append,bulkAll_app]
    simp only [List.flatMap_cons,List.flatMap_nil,List.append_nil,List.map_cons,List.map_nil,uptoBulkAll]
    refine ⟨xs++ys,⟨by rw [List.length_append,List.length_append,h1.1,hy2.1],fun j v x hv hx=>?_⟩,by rw [List.length_append,h2,hyl,Nat.add_mul];omega,by rw [vbL_app];omega,fun i hi=>?_⟩
    · rw [List.getElem?_append,← h1.1] at hv
      rw [List.getElem?_append] at hx
      split at hv
      · rename_i hlt;rw [if_pos hlt] at hx;exact h1.2 j v x hv hx
      · rename_i hlt;rw [if_neg hlt] at hx;exact hy2.2 _ v x hv hx
    · rcases Nat.lt_or_ge i n with hlt|hge
      · have hm:i*s+s≤n*s:=by
          have:=Nat.mul_le_mul_right s (show i+1≤n by omega)
          rw [Nat.add_mul] at this;omega
        rw [List.drop_append_of_le_length (by omega),List.take_append_of_le_length (by rw [List.length_drop];omega)]
        exact h3 i hlt
      · obtain rfl:i=n:=by omega
        rw [List.drop_append,List.drop_eq_nil_of_le (by omega),h2,Nat.sub_self]
        simp only [List.nil_append,List.drop_zero]
        rw [List.take_of_length_le (by omega)]
        exact hy1
theorem trod_repU (htile:tilesOk P=true):∀ (fuel:Nat) (t:TypeId) (cs:List Value) (d:DataW H) (p:List MemPlace),t<P.types.size→DataW.trod enc P w 0 (fun _=>true) true fuel t cs=some (d,p)→∃ xs,Ty P t xs∧CellsRep w cs xs∧vbL xs≤uptoBulk d
  | 0,t,cs,d,p,_,h=>by cases h
  | fuel+1,t,cs,d,p,hin,h=>by
    have ih:=trod_repU htile fuel
    obtain ⟨hto,hcomp⟩:=tile_all htile hin
    have h0:=h
    cases ht:P.underlying t with
    | none=>unfold DataW.trod at h;rw [ht] at h;cases h
    | some td =>
      have other:∀ v,cs=[v]→otherOk P td=true→∃ xs,Ty P t xs∧CellsRep w cs xs∧vbL xs≤uptoBulk d:=by
        intro v e hm
        subst e
        exact ⟨[.junk],.other t td ht hm,CellsRep.one (.junk _),by have:=bulk_pos d;simp only [vbL,vb];omega⟩
      cases td with
      | bool =>
        obtain ⟨b,rfl,_⟩:=DataW.trod_bool ht h
        exact ⟨_,.bool t b ht,CellsRep.one (.bool b),by have:=bulk_pos d;simp only [vbL,vb];omega⟩
      | int k =>
        obtain ⟨n,rfl,_,hw⟩:=DataW.trod_int ht h
        exact ⟨_,.int t k n ht hw,CellsRep.one (.int k n),by have:=bulk_pos d;simp only [vbL,vb];omega⟩
      | string =>
        obtain ⟨s,rfl,hdp,hs⟩:=DataW.trod_string ht h
        exact ⟨_,.str t s ht hs,CellsRep.one (.str s),by
          simp only [Prod.mk.injEq] at hdp
          rw [hdp.1]
          simp only [vbL,vb,uptoBulk,Array.length_toList]
          exact Nat.le_refl _⟩
      | struct fs =>
        obtain ⟨ys,n,hn,hdp,hl,hlen,hf⟩:=DataW.trod_struct ht h
        obtain rfl:n=fuel:=by omega
        simp only [Prod.mk.injEq] at hdp
        simp only [tileOk,ht,beq_iff_eq] at hto
        obtain ⟨xs,h1,h2,hb,h3⟩:=fields_repU ih cs fs.toList ys 0 _ (fun f hm=>hcomp _ (by simp only [compsOf,ht];exact List.mem_map_of_mem hm)) hto (by omega) (by rw [hlen];simp) (fun i f hi=>hf i f (by rwa [Array.getElem?_toList] at hi))
        rw [List.drop_zero,Nat.sub_zero,List.take_of_length_le (by omega)] at h2
        exact ⟨xs,.struct t fs xs ht (by rw [h2.1,hl]) (fun f hm=>by simpa using (h3 f hm).2),h2,by rw [hdp.1];simp only [uptoBulk];omega⟩
      | array n e =>
        obtain ⟨ys,m,hm,hdp,hl,hlen,hf⟩:=DataW.trod_array ht h
        obtain rfl:m=fuel:=by omega
        simp only [Prod.mk.injEq] at hdp
        simp only [tileOk,ht,beq_iff_eq] at hto
        obtain ⟨xs,h1,h2,hb,h3⟩:=elems_repU (P:=P) (e:=e) (s:=P.cellsOf e) (w:=w) n (fun i=>(cs.drop (i*P.cellsOf e)).take (P.cellsOf e)) (fun i=>((ys.map (·.1))[i]?).getD .nil) (fun i hi=>by
          refine ⟨?_,?_⟩
          · have hmm:i*P.cellsOf e+P.cellsOf e≤n*P.cellsOf e:=by
              have:=Nat.mul_le_mul_right (P.cellsOf e) (show i+1≤n by omega)
              rw [Nat.add_mul] at this;omega
            rw [List.length_take,List.length_drop];omega
          · have hx:=hf i hi
            rw [List.getElem?_eq_getElem (by omega)] at hx
            have hy:((ys.map (·.1))[i]?).getD .nil=ys[i].1:=by rw [List.getElem?_map,List.getElem?_eq_getElem (by omega)];rfl
            rw [hy]
            exact ih _ _ _ _ (hcomp e (by simp [compsOf,ht])) hx)
        have hcs:(List.range n).flatMap (fun i=>(cs.drop (i*P.cellsOf e)).take (P.cellsOf e))=cs:=by
          have key:∀ m,m≤n→(List.range m).flatMap (fun i=>(cs.drop (i*P.cellsOf e)).take (P.cellsOf e))=cs.take (m*P.cellsOf e):=by
            intro m
            induction m with
            | zero=>intro _;simp
            | succ m ihm =>
              intro hm
              rw [List.range_succ,List.flatMap_append,ihm (by omega)]
              simp only [List.flatMap_cons,List.flatMap_nil,List.append_nil]
              rw [Nat.add_mul,Nat.one_mul,List.take_add]
          rw [key n (Nat.le_refl _),List.take_of_length_le (by omega)]
        rw [hcs] at h1
        have hlen':(ys.map (·.1)).length=n:=by rw [List.length_map,hlen]
        exact ⟨xs,.array t n e xs ht (by rw [h1.1,hl]) h3,h1,by rw [hdp.1];rw [range_get hlen'] at hb;simp only [uptoBulk];omega⟩
      | slice e =>
        unfold DataW.trod at h
        rw [ht] at h
        simp only [] at h
        by_cases hz:P.cellsOf e=0
        · obtain ⟨a,l,c,rfl⟩:=Joins.slice_form ht h0
          exact other _ rfl (by simp [otherOk,hz])
        · have hp:0<P.cellsOf e:=Nat.pos_of_ne_zero hz
          obtain ⟨a,l,c,rfl⟩:=Joins.slice_form ht h0
          cases a with
          | none =>
            have hlc:l=0∧c=0:=by
              split at h<;>first|(cases h;done)|simp_all
            obtain ⟨rfl,rfl⟩:=hlc
            exact ⟨[.sl 0 []],.slice t e 0 [] ht (by simp) (Nat.zero_le _) (fun i h=>by omega),CellsRep.one (.sl0 _ _),by have:=bulk_pos d;simp only [vbL,vb];omega⟩
          | some a =>
            simp only [] at h
            split at h
            case isFalse=>cases h
            rename_i hcond
            simp only [Option.bind_eq_some_iff] at h
            obtain ⟨els,hels,hmap⟩:=h
            obtain ⟨q1,q2⟩:=mapM_spec hels
            rw [List.length_range] at q1
            simp only [Option.map_eq_some_iff] at hmap
            obtain ⟨rest,_,hdp⟩:=hmap
            simp only [Prod.mk.injEq] at hdp
            have each:∀ i,i<l→∃ cl,w.cells? 0 (a.add (i*P.cellsOf e)) (P.cellsOf e)=some cl∧∃ xs,Ty P e xs∧CellsRep w cl xs∧vbL xs≤uptoBulk (((els.map (·.1))[i]?).getD .nil):=by
              intro i hi
              have:=q2 i i _ (by simp [hi]) (List.getElem?_eq_getElem (by omega))
              simp only [Option.bind_eq_some_iff] at this
              obtain ⟨cl,h1,h2⟩:=this
              have hy:((els.map (·.1))[i]?).getD .nil=els[i].1:=by rw [List.getElem?_map,List.getElem?_eq_getElem (by omega)];rfl
              rw [hy]
              exact ⟨cl,h1,ih _ _ _ _ (hcomp e (by simp [compsOf,ht])) h2⟩
            by_cases hl0:l=0
            · subst hl0
              exact ⟨[.sl 0 []],.slice t e 0 [] ht (by simp) (Nat.zero_le _) (fun i h=>by omega),CellsRep.one (.sl0 _ _),by have:=bulk_pos d;simp only [vbL,vb];omega⟩
            · obtain ⟨cl0,hc0,_⟩:=each 0 (by omega)
              have ea0:a.add (0*P.cellsOf e)=a:=by simp [Addr.add]
              rw [ea0] at hc0
              obtain ⟨_,hblk⟩:=cells?_spec hc0
              obtain ⟨us,T,fz,hspot,hb,_,_⟩:=hblk hp
              clear hblk
              obtain ⟨b,off,spot⟩:=a
              simp only [] at hspot hb
              subst hspot
              obtain ⟨xs,h1,h2,hbk,h3⟩:=elems_repU (P:=P) (e:=e) (s:=P.cellsOf e) (w:=w) l (fun i=>((us.toList.drop (off+i*P.cellsOf e)).take (P.cellsOf e))) (fun i=>((els.map (·.1))[i]?).getD .nil) (fun i hi=>by
                obtain ⟨cl,hcl,xs,hx1,hx2,hx3⟩:=each i hi
                rw [addr_add] at hcl
                obtain ⟨hlen,hsp⟩:=cells?_spec hcl
                obtain ⟨us',T',fz',_,hb',hsz,hget⟩:=hsp hp
                simp only [] at hb' hsz hget
                rw [hb] at hb';cases hb'
                have heq:(us.toList.drop (off+i*P.cellsOf e)).take (P.cellsOf e)=cl:=by
                  apply List.ext_getElem?
                  intro j
                  rw [List.getElem?_take]
                  split
                  · rename_i hj
                    rw [List.getElem?_drop,Array.getElem?_toList]
                    exact hget j hj
                  · rename_i hj
                    rw [List.getElem?_eq_none (by omega)]
                refine ⟨by rw [heq];exact hlen,xs,hx1,by rw [heq];exact hx2,hx3⟩)
              have hsz:off+l*P.cellsOf e≤us.size:=by
                obtain ⟨cl,hcl,_⟩:=each (l - 1) (by omega)
                rw [addr_add] at hcl
                obtain ⟨_,hsp⟩:=cells?_spec hcl
                obtain ⟨us',T',fz',_,hb',hsz,_⟩:=hsp hp
                simp only [] at hb' hsz
                rw [hb] at hb';cases hb'
                have:(l - 1)*P.cellsOf e+P.cellsOf e=l*P.cellsOf e:=by
                  rw [← Nat.succ_mul];congr 1;omega
                omega
              have hlen':(els.map (·.1)).length=l:=by rw [List.length_map,q1]
              rw [range_get hlen'] at hbk
              refine ⟨[.sl l xs],.slice t e l xs ht h2 (by omega) h3,CellsRep.one (.sl b off l c us T fz xs ?_ hb (by omega) hcond.2.1 fun j v x hv hx=>?_),by rw [← hdp.1];simp only [vbL,vb,uptoBulk];omega⟩
              · rcases Nat.lt_or_ge b w.heap.size with h' | h'
                · exact h'
                · rw [Array.getElem?_eq_none h'] at hb;cases hb
              · have hjl:j<l*P.cellsOf e:=by
                  rcases Nat.lt_or_ge j xs.length with h' | h'
                  · omega
                  · rw [List.getElem?_eq_none h'] at hx;cases hx
                refine h1.2 j v x ?_ hx
                have hfl:(List.range l).flatMap (fun i=>((us.toList.drop (off+i*P.cellsOf e)).take (P.cellsOf e)))=(us.toList.drop off).take (l*P.cellsOf e):=by
                  have key:∀ m,(List.range m).flatMap (fun i=>((us.toList.drop (off+i*P.cellsOf e)).take (P.cellsOf e)))=(us.toList.drop off).take (m*P.cellsOf e):=by
                    intro m
                    induction m with
                    | zero=>simp
                    | succ m ihm =>
                      rw [List.range_succ,List.flatMap_append,ihm]
                      simp only [List.flatMap_cons,List.flatMap_nil,List.append_nil]
                      rw [Nat.add_mul,Nat.one_mul,List.take_add,List.drop_drop]
                  exact key l
                rw [hfl,List.getElem?_take,if_pos hjl,List.getElem?_drop,Array.getElem?_toList]
                exact hv
      | _ =>
        have:∃ v,cs=[v]:=by
          unfold DataW.trod at h
          rw [ht] at h
          simp only [] at h
          first
            | (cases h;done)
            | (split at h<;>first|(cases h;done)|exact ⟨_,rfl⟩|simp_all)
        obtain ⟨v,hv⟩:=this
        exact other v hv rfl
end
end Go.Lg

namespace Go.Proofs.YtlnphjjhfgghkaaGreatDoor
open Go Go.Lg Go.RowKit Go.ChangeShapes Go.WideShapes Go.ChangeAt
theorem tiles:tilesOk Tryz.prog=true:=by kernel_rfl
theorem tyInt:IsT Tryz.prog 3 (fun n:Int=>cI n) InI64:=isInt (by kernel_rfl)
theorem tyBool:IsT Tryz.prog 4 (fun n:Bool=>cB n) (fun _=>True):=isBool (by kernel_rfl)
theorem tyStr:IsT Tryz.prog 9 (fun n:ByteArray=>cS n) (fun s=>s.size≤maxLen):=isStr (by kernel_rfl)
theorem tyStrs:IsT Tryz.prog 45 (fun l:List ByteArray=>[encL cS l]) (fun l=>l.length≤maxLen∧∀ x∈l,x.size≤maxLen):=isSl (e:=9) (s:=1) (by kernel_rfl) (by decide) cS_len tyStr
theorem tyLife:IsT Tryz.prog 53 cLif (fun p=>p.2.length≤maxLen):=by
  intro xs hx
  have hp:=hx.st (ts:=[9,45]) (by kernel_rfl)
  obtain ⟨_,_,rfl,h0,_,_,rfl,h1,rfl⟩:=hp
  obtain ⟨l,rfl,o0⟩:=tyStr _ h0
  obtain ⟨s,rfl,o1⟩:=tyStrs _ h1
  exact ⟨(l,s),rfl,o1.1⟩
theorem tyLifes:IsT Tryz.prog 43 (fun l:List Lif=>[encL cLif l]) (fun l=>l.length≤maxLen∧∀ p∈l,p.2.length≤maxLen):=isSl (e:=53) (s:=2) (by kernel_rfl) (by decide) cLif_len tyLife
end Go.Proofs.YtlnphjjhfgghkaaGreatDoor
