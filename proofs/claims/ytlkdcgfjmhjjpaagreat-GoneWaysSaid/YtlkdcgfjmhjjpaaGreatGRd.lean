/-
  LgV LgR LgS MirA MirC LgW MirV LgX LgY LgZ Vb Loa Ga Fg Gb Gc: put together.
-/
import Derived.Test.YtlkdcgfjmhjjpaaGreatGRc
import GoSem.ClaimChange
import Derived.ChangeArms
import Derived.OpenShut
import Derived.Lib.SmallJoins
import Derived.Sort.Walk0
import Derived.Test.YtlkdcgfjmhjjpaaGreatProg
set_option linter.unusedSimpArgs false
set_option linter.unusedVariables false
namespace Go.Lg
open Go Go.RowKit

theorem VC0 : type_of% @Go.Lg.vcg_skip ∧
  type_of% @Go.Lg.vcg_reg ∧
  type_of% @Go.Lg.vcg_rego ∧
  type_of% @Go.Lg.vcg_seq ∧
  type_of% @Go.Lg.vcg_cond ∧
  type_of% @Go.Lg.vcg_block ∧
  type_of% @Go.Lg.vcg_loop ∧
  type_of% @Go.Lg.vcg_exit ∧
  type_of% @Go.Lg.vcg_ret ∧
  type_of% @Go.Lg.vcg_bad ∧
  type_of% @Go.Lg.vcg_keep ∧
  type_of% @Go.Lg.St.keep.eq_1 ∧
  type_of% @Go.Lg.keepL.eq_1 ∧
  type_of% @Go.Lg.keepL.eq_2 ∧
  type_of% @Go.Lg.vops_nil ∧
  type_of% @Go.Lg.vops_cons ∧
  type_of% @Go.Lg.vopsM_nil ∧
  type_of% @Go.Lg.vopsM_cons ∧
  type_of% @Go.Lg.thenQ_normal ∧
  type_of% @Go.Lg.thenQ_exit ∧
  type_of% @Go.Lg.thenQ_ret ∧
  type_of% @Go.Lg.blockQ_normal ∧
  type_of% @Go.Lg.blockQ_exit ∧
  type_of% @Go.Lg.blockQ_ret ∧
  type_of% @Go.Lg.retK_normal ∧
  type_of% @Go.Lg.retK_ret ∧
  type_of% @Go.Lg.some_ex ∧
  type_of% @Go.Lg.vstep_none ∧
  type_of% @Go.Lg.vstep_some ∧
  type_of% @Go.Lg.vguard_bool ∧
  type_of% @Go.Lg.vguard_skip ∧
  type_of% @Go.Lg.vguardM_skip ∧
  type_of% @Go.Lg.gdV_true ∧
  type_of% @Go.Lg.gdV_false ∧
  type_of% @Go.Lg.vstepM_none ∧
  type_of% @Go.Lg.vstepM_some ∧
  type_of% @Go.Lg.vguardM_bool ∧
  type_of% @Go.Lg.gdVM_true ∧
  type_of% @Go.Lg.gdVM_false ∧
  type_of% @Go.Lg.vresM_A ∧
  type_of% @Go.Lg.vresM_C ∧
  type_of% @Go.Lg.vresM_D ∧
  type_of% @Go.Lg.vresM_call ∧
  type_of% @Go.Lg.vresM_bad ∧
  type_of% @Go.Lg.vres_A ∧
  type_of% @Go.Lg.vres_C ∧
  type_of% @Go.Lg.vres_D ∧
  type_of% @Go.Lg.vres_call ∧
  type_of% @Go.Lg.vres_bad ∧
  type_of% @Go.Lg.condV_true ∧
  type_of% @Go.Lg.condV_false ∧
  type_of% @Go.Lg.ofOpt_some ∧
  type_of% @Go.Lg.lop.eq_1 ∧
  type_of% @Go.Lg.lop.eq_2 ∧
  type_of% @Go.Lg.lop.eq_3 ∧
  type_of% @Go.Lg.lop.eq_4 ∧
  type_of% @Go.Lg.lop.eq_5 ∧
  type_of% @Go.Lg.lop.eq_6 ∧
  type_of% @Go.Lg.lop.eq_7 ∧
  type_of% @Go.Lg.lop.eq_8 :=
  ⟨@Go.Lg.vcg_skip, @Go.Lg.vcg_reg, @Go.Lg.vcg_rego, @Go.Lg.vcg_seq, @Go.Lg.vcg_cond, @Go.Lg.vcg_block, @Go.Lg.vcg_loop, @Go.Lg.vcg_exit, @Go.Lg.vcg_ret, @Go.Lg.vcg_bad, @Go.Lg.vcg_keep, @Go.Lg.St.keep.eq_1, @Go.Lg.keepL.eq_1, @Go.Lg.keepL.eq_2, @Go.Lg.vops_nil, @Go.Lg.vops_cons, @Go.Lg.vopsM_nil, @Go.Lg.vopsM_cons, @Go.Lg.thenQ_normal, @Go.Lg.thenQ_exit, @Go.Lg.thenQ_ret, @Go.Lg.blockQ_normal, @Go.Lg.blockQ_exit, @Go.Lg.blockQ_ret, @Go.Lg.retK_normal, @Go.Lg.retK_ret, @Go.Lg.some_ex, @Go.Lg.vstep_none, @Go.Lg.vstep_some, @Go.Lg.vguard_bool, @Go.Lg.vguard_skip, @Go.Lg.vguardM_skip, @Go.Lg.gdV_true, @Go.Lg.gdV_false, @Go.Lg.vstepM_none, @Go.Lg.vstepM_some, @Go.Lg.vguardM_bool, @Go.Lg.gdVM_true, @Go.Lg.gdVM_false, @Go.Lg.vresM_A, @Go.Lg.vresM_C, @Go.Lg.vresM_D, @Go.Lg.vresM_call, @Go.Lg.vresM_bad, @Go.Lg.vres_A, @Go.Lg.vres_C, @Go.Lg.vres_D, @Go.Lg.vres_call, @Go.Lg.vres_bad, @Go.Lg.condV_true, @Go.Lg.condV_false, @Go.Lg.ofOpt_some, @Go.Lg.lop.eq_1, @Go.Lg.lop.eq_2, @Go.Lg.lop.eq_3, @Go.Lg.lop.eq_4, @Go.Lg.lop.eq_5, @Go.Lg.lop.eq_6, @Go.Lg.lop.eq_7, @Go.Lg.lop.eq_8⟩

theorem VC1 : type_of% @Go.Lg.lop.eq_9 ∧
  type_of% @Go.Lg.lop.eq_10 ∧
  type_of% @Go.Lg.lop.eq_11 ∧
  type_of% @Go.Lg.lop.eq_12 ∧
  type_of% @Go.Lg.lop.eq_13 ∧
  type_of% @Go.Lg.lop.eq_14 ∧
  type_of% @Go.Lg.lop.eq_15 ∧
  type_of% @Go.Lg.lop.eq_16 ∧
  type_of% @Go.Lg.lop.eq_17 ∧
  type_of% @Go.Lg.lop.eq_18 ∧
  type_of% @Go.Lg.lop.eq_19 ∧
  type_of% @Go.Lg.lop.eq_20 ∧
  type_of% @Go.Lg.lop.eq_21 ∧
  type_of% @Go.Lg.lop.eq_22 ∧
  type_of% @Go.Lg.lop.eq_23 ∧
  type_of% @Go.Lg.lop.eq_24 ∧
  type_of% @Go.Lg.lop.eq_25 ∧
  type_of% @Go.Lg.lop.eq_26 ∧
  type_of% @Go.Lg.lop.eq_27 ∧
  type_of% @Go.Lg.lop.eq_28 ∧
  type_of% @Go.Lg.lop.eq_29 ∧
  type_of% @Go.Lg.lop.eq_30 ∧
  type_of% @Go.Lg.lop.eq_31 ∧
  type_of% @Go.Lg.lop.eq_32 ∧
  type_of% @Go.Lg.lop.eq_33 ∧
  type_of% @Go.Lg.lop.eq_34 ∧
  type_of% @Go.Lg.lop.eq_35 ∧
  type_of% @Go.Lg.lop.eq_36 ∧
  type_of% @Go.Lg.lop.eq_37 ∧
  type_of% @Go.Lg.lop.eq_38 ∧
  type_of% @Go.Lg.lop.eq_39 ∧
  type_of% @Go.Lg.lop.eq_40 ∧
  type_of% @Go.Lg.lop.eq_41 ∧
  type_of% @Go.Lg.lop.eq_42 ∧
  type_of% @Go.Lg.lop.eq_43 ∧
  type_of% @Go.Lg.lop.eq_44 ∧
  type_of% @Go.Lg.lop.eq_45 ∧
  type_of% @Go.Lg.lop.eq_46 ∧
  type_of% @Go.Lg.lop.eq_47 ∧
  type_of% @Go.Lg.lop.eq_48 ∧
  type_of% @Go.Lg.lop.eq_49 ∧
  type_of% @Go.Lg.Rd.get.eq_1 ∧
  type_of% @Go.Lg.Rd.get.eq_2 ∧
  type_of% @Go.Lg.lbin.eq_1 ∧
  type_of% @Go.Lg.lbin.eq_2 ∧
  type_of% @Go.Lg.lbin.eq_3 ∧
  type_of% @Go.Lg.lbin.eq_4 ∧
  type_of% @Go.Lg.lbin.eq_5 ∧
  type_of% @Go.Lg.lbin.eq_6 ∧
  type_of% @Go.Lg.lbin.eq_7 ∧
  type_of% @Go.Lg.lbin.eq_8 ∧
  type_of% @Go.Lg.lbin.eq_9 ∧
  type_of% @Go.Lg.lbin.eq_10 ∧
  type_of% @Go.Lg.lbin.eq_11 ∧
  type_of% @Go.Lg.lbin.eq_12 ∧
  type_of% @Go.Lg.lbin.eq_13 ∧
  type_of% @Go.Lg.lbin.eq_14 ∧
  type_of% @Go.Lg.lbin.eq_15 ∧
  type_of% @Go.Lg.lbin.eq_16 ∧
  type_of% @Go.Lg.lbin.eq_17 :=
  ⟨@Go.Lg.lop.eq_9, @Go.Lg.lop.eq_10, @Go.Lg.lop.eq_11, @Go.Lg.lop.eq_12, @Go.Lg.lop.eq_13, @Go.Lg.lop.eq_14, @Go.Lg.lop.eq_15, @Go.Lg.lop.eq_16, @Go.Lg.lop.eq_17, @Go.Lg.lop.eq_18, @Go.Lg.lop.eq_19, @Go.Lg.lop.eq_20, @Go.Lg.lop.eq_21, @Go.Lg.lop.eq_22, @Go.Lg.lop.eq_23, @Go.Lg.lop.eq_24, @Go.Lg.lop.eq_25, @Go.Lg.lop.eq_26, @Go.Lg.lop.eq_27, @Go.Lg.lop.eq_28, @Go.Lg.lop.eq_29, @Go.Lg.lop.eq_30, @Go.Lg.lop.eq_31, @Go.Lg.lop.eq_32, @Go.Lg.lop.eq_33, @Go.Lg.lop.eq_34, @Go.Lg.lop.eq_35, @Go.Lg.lop.eq_36, @Go.Lg.lop.eq_37, @Go.Lg.lop.eq_38, @Go.Lg.lop.eq_39, @Go.Lg.lop.eq_40, @Go.Lg.lop.eq_41, @Go.Lg.lop.eq_42, @Go.Lg.lop.eq_43, @Go.Lg.lop.eq_44, @Go.Lg.lop.eq_45, @Go.Lg.lop.eq_46, @Go.Lg.lop.eq_47, @Go.Lg.lop.eq_48, @Go.Lg.lop.eq_49, @Go.Lg.Rd.get.eq_1, @Go.Lg.Rd.get.eq_2, @Go.Lg.lbin.eq_1, @Go.Lg.lbin.eq_2, @Go.Lg.lbin.eq_3, @Go.Lg.lbin.eq_4, @Go.Lg.lbin.eq_5, @Go.Lg.lbin.eq_6, @Go.Lg.lbin.eq_7, @Go.Lg.lbin.eq_8, @Go.Lg.lbin.eq_9, @Go.Lg.lbin.eq_10, @Go.Lg.lbin.eq_11, @Go.Lg.lbin.eq_12, @Go.Lg.lbin.eq_13, @Go.Lg.lbin.eq_14, @Go.Lg.lbin.eq_15, @Go.Lg.lbin.eq_16, @Go.Lg.lbin.eq_17⟩

theorem VC2 : type_of% @Go.Lg.lbin.eq_18 ∧
  type_of% @Go.Lg.lbin.eq_19 ∧
  type_of% @Go.Lg.lbin.eq_20 ∧
  type_of% @Go.Lg.lbin.eq_21 ∧
  type_of% @Go.Lg.lbin.eq_22 ∧
  type_of% @Go.Lg.lbin.eq_23 ∧
  type_of% @Go.Lg.lbin.eq_24 ∧
  type_of% @Go.Lg.lbin.eq_25 ∧
  type_of% @Go.Lg.lbin.eq_26 ∧
  type_of% @Go.Lg.lconvI.eq_1 ∧
  type_of% @Go.Lg.lconvI.eq_2 ∧
  type_of% @Go.Lg.lload.eq_1 ∧
  type_of% @Go.Lg.lload.eq_2 ∧
  type_of% @Go.Lg.lload.eq_3 ∧
  type_of% @Go.Lg.lstore.eq_1 ∧
  type_of% @Go.Lg.lstore.eq_2 ∧
  type_of% @Go.Lg.lnil.eq_1 ∧
  type_of% @Go.Lg.lnil.eq_2 ∧
  type_of% @Go.Lg.lnil.eq_3 ∧
  type_of% @Go.Lg.leqb.eq_1 ∧
  type_of% @Go.Lg.leqb.eq_2 ∧
  type_of% @Go.Lg.leqp.eq_1 ∧
  type_of% @Go.Lg.leqp.eq_2 ∧
  type_of% @Go.Lg.leqp.eq_3 ∧
  type_of% @Go.Lg.leqp.eq_4 ∧
  type_of% @Go.Lg.leqi.eq_1 ∧
  type_of% @Go.Lg.leqi.eq_2 ∧
  type_of% @Go.Lg.leqi.eq_3 ∧
  type_of% @Go.Lg.leqi.eq_4 ∧
  type_of% @Go.Lg.lun.eq_1 ∧
  type_of% @Go.Lg.lun.eq_2 ∧
  type_of% @Go.Lg.lun.eq_3 ∧
  type_of% @Go.Lg.lun.eq_4 ∧
  type_of% @Go.Lg.lpick.eq_1 ∧
  type_of% @Go.Lg.lpick.eq_2 ∧
  type_of% @Go.Lg.lmvs.eq_1 ∧
  type_of% @Go.Lg.lmvs.eq_2 ∧
  type_of% @Go.Lg.lmksl.eq_1 ∧
  type_of% @Go.Lg.lmksl.eq_2 ∧
  type_of% @Go.Lg.lslS.eq_1 ∧
  type_of% @Go.Lg.lslSx.eq_1 ∧
  type_of% @Go.Lg.lslSx.eq_2 ∧
  type_of% @Go.Lg.lslVx.eq_1 ∧
  type_of% @Go.Lg.lsl.eq_1 ∧
  type_of% @Go.Lg.lsl.eq_2 ∧
  type_of% @Go.Lg.lslV.eq_1 ∧
  type_of% @Go.Lg.lslV.eq_2 ∧
  type_of% @Go.Lg.lslV.eq_3 ∧
  type_of% @Go.Lg.lslV.eq_4 ∧
  type_of% @Go.Lg.lslV.eq_5 ∧
  type_of% @Go.Lg.lslA.eq_1 ∧
  type_of% @Go.Lg.lslA.eq_2 ∧
  type_of% @Go.Lg.lslA.eq_3 ∧
  type_of% @Go.Lg.lfad.eq_1 ∧
  type_of% @Go.Lg.lfad.eq_2 ∧
  type_of% @Go.Lg.lfad.eq_3 ∧
  type_of% @Go.Lg.lfld.eq_1 ∧
  type_of% @Go.Lg.lfld.eq_2 ∧
  type_of% @Go.Lg.liaA.eq_1 ∧
  type_of% @Go.Lg.liaA.eq_2 :=
  ⟨@Go.Lg.lbin.eq_18, @Go.Lg.lbin.eq_19, @Go.Lg.lbin.eq_20, @Go.Lg.lbin.eq_21, @Go.Lg.lbin.eq_22, @Go.Lg.lbin.eq_23, @Go.Lg.lbin.eq_24, @Go.Lg.lbin.eq_25, @Go.Lg.lbin.eq_26, @Go.Lg.lconvI.eq_1, @Go.Lg.lconvI.eq_2, @Go.Lg.lload.eq_1, @Go.Lg.lload.eq_2, @Go.Lg.lload.eq_3, @Go.Lg.lstore.eq_1, @Go.Lg.lstore.eq_2, @Go.Lg.lnil.eq_1, @Go.Lg.lnil.eq_2, @Go.Lg.lnil.eq_3, @Go.Lg.leqb.eq_1, @Go.Lg.leqb.eq_2, @Go.Lg.leqp.eq_1, @Go.Lg.leqp.eq_2, @Go.Lg.leqp.eq_3, @Go.Lg.leqp.eq_4, @Go.Lg.leqi.eq_1, @Go.Lg.leqi.eq_2, @Go.Lg.leqi.eq_3, @Go.Lg.leqi.eq_4, @Go.Lg.lun.eq_1, @Go.Lg.lun.eq_2, @Go.Lg.lun.eq_3, @Go.Lg.lun.eq_4, @Go.Lg.lpick.eq_1, @Go.Lg.lpick.eq_2, @Go.Lg.lmvs.eq_1, @Go.Lg.lmvs.eq_2, @Go.Lg.lmksl.eq_1, @Go.Lg.lmksl.eq_2, @Go.Lg.lslS.eq_1, @Go.Lg.lslSx.eq_1, @Go.Lg.lslSx.eq_2, @Go.Lg.lslVx.eq_1, @Go.Lg.lsl.eq_1, @Go.Lg.lsl.eq_2, @Go.Lg.lslV.eq_1, @Go.Lg.lslV.eq_2, @Go.Lg.lslV.eq_3, @Go.Lg.lslV.eq_4, @Go.Lg.lslV.eq_5, @Go.Lg.lslA.eq_1, @Go.Lg.lslA.eq_2, @Go.Lg.lslA.eq_3, @Go.Lg.lfad.eq_1, @Go.Lg.lfad.eq_2, @Go.Lg.lfad.eq_3, @Go.Lg.lfld.eq_1, @Go.Lg.lfld.eq_2, @Go.Lg.liaA.eq_1, @Go.Lg.liaA.eq_2⟩

theorem VC3 : type_of% @Go.Lg.liaA.eq_3 ∧
  type_of% @Go.Lg.liaA.eq_4 ∧
  type_of% @Go.Lg.liaS.eq_1 ∧
  type_of% @Go.Lg.liaS.eq_2 ∧
  type_of% @Go.Lg.liaS.eq_3 ∧
  type_of% @Go.Lg.liaS.eq_4 ∧
  type_of% @Go.Lg.liaS.eq_5 ∧
  type_of% @Go.Lg.liaS.eq_6 ∧
  type_of% @Go.Lg.lixS.eq_1 ∧
  type_of% @Go.Lg.lixS.eq_2 ∧
  type_of% @Go.Lg.lixS.eq_3 ∧
  type_of% @Go.Lg.ltas.eq_1 ∧
  type_of% @Go.Lg.ltas.eq_2 ∧
  type_of% @Go.Lg.ltas.eq_3 ∧
  type_of% @Go.Lg.lext.eq_1 ∧
  type_of% @Go.Lg.lext.eq_2 ∧
  type_of% @Go.Lg.llen.eq_1 ∧
  type_of% @Go.Lg.llen.eq_2 ∧
  type_of% @Go.Lg.llen.eq_3 ∧
  type_of% @Go.Lg.llen.eq_4 ∧
  type_of% @Go.Lg.llen.eq_5 ∧
  type_of% @Go.Lg.llen.eq_6 ∧
  type_of% @Go.Lg.llen.eq_7 ∧
  type_of% @Go.Lg.lmn.eq_1 ∧
  type_of% @Go.Lg.lmn.eq_2 ∧
  type_of% @Go.Lg.lcallv.eq_1 ∧
  type_of% @Go.Lg.lcallv.eq_2 ∧
  type_of% @Go.Lg.lappx.eq_1 ∧
  type_of% @Go.Lg.lapp.eq_1 ∧
  type_of% @Go.Lg.lapp.eq_2 ∧
  type_of% @Go.Lg.lapp.eq_3 ∧
  type_of% @Go.Lg.lenV.eq_1 ∧
  type_of% @Go.Lg.lenV.eq_2 ∧
  type_of% @Go.Lg.lenV.eq_3 ∧
  type_of% @Go.Lg.lenV.eq_4 ∧
  type_of% @Go.Lg.lenV.eq_5 ∧
  type_of% @Go.Lg.lenV.eq_6 ∧
  type_of% @Go.Lg.lenV.eq_7 ∧
  type_of% @Go.Lg.loOf.eq_1 ∧
  type_of% @Go.Lg.loOf.eq_2 ∧
  type_of% @Go.Lg.hiOf.eq_1 ∧
  type_of% @Go.Lg.hiOf.eq_2 ∧
  type_of% @Go.Lg.srcOf.eq_1 ∧
  type_of% @Go.Lg.srcOf.eq_2 ∧
  type_of% @Go.Lg.srcOf.eq_3 ∧
  type_of% @Go.Lg.srcOf.eq_4 ∧
  type_of% @Go.Lg.srcOf.eq_5 ∧
  type_of% @Go.Lg.V.cells.eq_1 ∧
  type_of% @Go.Lg.V.cells.eq_2 ∧
  type_of% @Go.Lg.V.known.eq_1 ∧
  type_of% @Go.Lg.V.known.eq_2 ∧
  type_of% @Go.Lg.isPtr.eq_1 ∧
  type_of% @Go.Lg.isPtr.eq_2 ∧
  type_of% @Go.Lg.isPtr.eq_3 ∧
  type_of% @Go.Lg.partsOk.eq_1 ∧
  type_of% @Go.Lg.partsOk.eq_2 ∧
  type_of% @Go.Lg.fillL.eq_1 ∧
  type_of% @Go.Lg.fillL.eq_2 ∧
  type_of% @Go.Lg.St.put.eq_1 ∧
  type_of% @Go.Lg.dput_some :=
  ⟨@Go.Lg.liaA.eq_3, @Go.Lg.liaA.eq_4, @Go.Lg.liaS.eq_1, @Go.Lg.liaS.eq_2, @Go.Lg.liaS.eq_3, @Go.Lg.liaS.eq_4, @Go.Lg.liaS.eq_5, @Go.Lg.liaS.eq_6, @Go.Lg.lixS.eq_1, @Go.Lg.lixS.eq_2, @Go.Lg.lixS.eq_3, @Go.Lg.ltas.eq_1, @Go.Lg.ltas.eq_2, @Go.Lg.ltas.eq_3, @Go.Lg.lext.eq_1, @Go.Lg.lext.eq_2, @Go.Lg.llen.eq_1, @Go.Lg.llen.eq_2, @Go.Lg.llen.eq_3, @Go.Lg.llen.eq_4, @Go.Lg.llen.eq_5, @Go.Lg.llen.eq_6, @Go.Lg.llen.eq_7, @Go.Lg.lmn.eq_1, @Go.Lg.lmn.eq_2, @Go.Lg.lcallv.eq_1, @Go.Lg.lcallv.eq_2, @Go.Lg.lappx.eq_1, @Go.Lg.lapp.eq_1, @Go.Lg.lapp.eq_2, @Go.Lg.lapp.eq_3, @Go.Lg.lenV.eq_1, @Go.Lg.lenV.eq_2, @Go.Lg.lenV.eq_3, @Go.Lg.lenV.eq_4, @Go.Lg.lenV.eq_5, @Go.Lg.lenV.eq_6, @Go.Lg.lenV.eq_7, @Go.Lg.loOf.eq_1, @Go.Lg.loOf.eq_2, @Go.Lg.hiOf.eq_1, @Go.Lg.hiOf.eq_2, @Go.Lg.srcOf.eq_1, @Go.Lg.srcOf.eq_2, @Go.Lg.srcOf.eq_3, @Go.Lg.srcOf.eq_4, @Go.Lg.srcOf.eq_5, @Go.Lg.V.cells.eq_1, @Go.Lg.V.cells.eq_2, @Go.Lg.V.known.eq_1, @Go.Lg.V.known.eq_2, @Go.Lg.isPtr.eq_1, @Go.Lg.isPtr.eq_2, @Go.Lg.isPtr.eq_3, @Go.Lg.partsOk.eq_1, @Go.Lg.partsOk.eq_2, @Go.Lg.fillL.eq_1, @Go.Lg.fillL.eq_2, @Go.Lg.St.put.eq_1, @Go.Lg.dput_some⟩

theorem VC4 : type_of% @Go.Lg.dput_none ∧
  type_of% @Go.Lg.tupd_app ∧
  type_of% @Go.Lg.hupd_app ∧
  type_of% @Go.Lg.cupd_app ∧
  type_of% @Go.Lg.siteOf.eq_1 ∧
  type_of% @Go.Lg.rvals.eq_1 ∧
  type_of% @Go.Lg.rvals.eq_2 ∧
  type_of% @Go.Lg.rval.eq_1 ∧
  type_of% @Go.Lg.rval.eq_2 ∧
  type_of% @Go.Lg.snap.eq_1 ∧
  type_of% @Go.Lg.snap.eq_2 ∧
  type_of% @Go.Lg.snap.eq_3 ∧
  type_of% @Go.Lg.snap.eq_4 ∧
  type_of% @Go.Lg.snap.eq_5 ∧
  type_of% @Go.Lg.snap.eq_6 ∧
  type_of% @Go.Lg.snap.eq_7 ∧
  type_of% @Go.Lg.snap.eq_8 ∧
  type_of% @Go.Lg.snap.eq_9 ∧
  type_of% @Go.Lg.snap.eq_10 ∧
  type_of% @Go.Lg.snap.eq_11 ∧
  type_of% @Go.Lg.sok.eq_1 ∧
  type_of% @Go.Lg.sok.eq_2 ∧
  type_of% @Go.Lg.sok.eq_3 ∧
  type_of% @Go.Lg.sok.eq_4 ∧
  type_of% @Go.Lg.sok.eq_5 ∧
  type_of% @Go.Lg.sok.eq_6 ∧
  type_of% @Go.Lg.sok.eq_7 ∧
  type_of% @Go.Lg.sok.eq_8 ∧
  type_of% @Go.Lg.sok.eq_9 ∧
  type_of% @Go.Lg.sok.eq_10 ∧
  type_of% @Go.Lg.sok.eq_11 ∧
  type_of% @Go.Lg.frs.eq_1 ∧
  type_of% @Go.Lg.frs.eq_2 ∧
  type_of% @Go.Lg.frs.eq_3 ∧
  type_of% @Go.Lg.frs.eq_4 ∧
  type_of% @Go.Lg.frs.eq_5 ∧
  type_of% @Go.Lg.frs.eq_6 ∧
  type_of% @Go.Lg.frs.eq_7 ∧
  type_of% @Go.Lg.frs.eq_8 ∧
  type_of% @Go.Lg.frs.eq_9 ∧
  type_of% @Go.Lg.frs.eq_10 ∧
  type_of% @Go.Lg.frs.eq_11 ∧
  type_of% @Go.Lg.frs.eq_12 ∧
  type_of% @Go.Lg.frs.eq_13 ∧
  type_of% @Go.Lg.frs.eq_14 ∧
  type_of% @Go.Lg.frs.eq_15 ∧
  type_of% @Go.Lg.argTm_app ∧
  type_of% @Go.Lg.noH_app ∧
  type_of% @Go.Lg.noC_app ∧
  type_of% @Go.Lg.tmk_nil ∧
  type_of% @Go.Lg.tmk_cons ∧
  type_of% @Go.Lg.hmk_nil ∧
  type_of% @Go.Lg.hmk_cons ∧
  type_of% @Go.Lg.tmOk.eq_1 ∧
  type_of% @Go.Lg.tmOk.eq_2 ∧
  type_of% @Go.Lg.hOk.eq_1 ∧
  type_of% @Go.Lg.hOk.eq_2 ∧
  type_of% @Option.map.eq_1.{0,0} ∧
  type_of% @Option.map.eq_2.{0,0} ∧
  type_of% @Prod.mk.injEq.{0,0} :=
  ⟨@Go.Lg.dput_none, @Go.Lg.tupd_app, @Go.Lg.hupd_app, @Go.Lg.cupd_app, @Go.Lg.siteOf.eq_1, @Go.Lg.rvals.eq_1, @Go.Lg.rvals.eq_2, @Go.Lg.rval.eq_1, @Go.Lg.rval.eq_2, @Go.Lg.snap.eq_1, @Go.Lg.snap.eq_2, @Go.Lg.snap.eq_3, @Go.Lg.snap.eq_4, @Go.Lg.snap.eq_5, @Go.Lg.snap.eq_6, @Go.Lg.snap.eq_7, @Go.Lg.snap.eq_8, @Go.Lg.snap.eq_9, @Go.Lg.snap.eq_10, @Go.Lg.snap.eq_11, @Go.Lg.sok.eq_1, @Go.Lg.sok.eq_2, @Go.Lg.sok.eq_3, @Go.Lg.sok.eq_4, @Go.Lg.sok.eq_5, @Go.Lg.sok.eq_6, @Go.Lg.sok.eq_7, @Go.Lg.sok.eq_8, @Go.Lg.sok.eq_9, @Go.Lg.sok.eq_10, @Go.Lg.sok.eq_11, @Go.Lg.frs.eq_1, @Go.Lg.frs.eq_2, @Go.Lg.frs.eq_3, @Go.Lg.frs.eq_4, @Go.Lg.frs.eq_5, @Go.Lg.frs.eq_6, @Go.Lg.frs.eq_7, @Go.Lg.frs.eq_8, @Go.Lg.frs.eq_9, @Go.Lg.frs.eq_10, @Go.Lg.frs.eq_11, @Go.Lg.frs.eq_12, @Go.Lg.frs.eq_13, @Go.Lg.frs.eq_14, @Go.Lg.frs.eq_15, @Go.Lg.argTm_app, @Go.Lg.noH_app, @Go.Lg.noC_app, @Go.Lg.tmk_nil, @Go.Lg.tmk_cons, @Go.Lg.hmk_nil, @Go.Lg.hmk_cons, @Go.Lg.tmOk.eq_1, @Go.Lg.tmOk.eq_2, @Go.Lg.hOk.eq_1, @Go.Lg.hOk.eq_2, @Option.map.eq_1.{0,0}, @Option.map.eq_2.{0,0}, @Prod.mk.injEq.{0,0}⟩

theorem VC5 : type_of% @List.getD_cons_zero.{0} ∧
  type_of% @List.getD_cons_succ.{0} ∧
  type_of% @List.map_cons.{0,0} ∧
  type_of% @List.map_nil.{0,0} ∧
  type_of% @List.all_cons.{0} ∧
  type_of% @List.all_nil.{0} ∧
  type_of% @true_and ∧
  type_of% @and_true ∧
  type_of% @and_self ∧
  type_of% @and_false ∧
  type_of% @false_and ∧
  type_of% @Bool.true_and ∧
  type_of% @Bool.and_true ∧
  type_of% @Bool.not_true ∧
  type_of% @Bool.not_false ∧
  type_of% @beq_self_eq_true.{0} ∧
  type_of% @decide_eq_true_eq ∧
  type_of% @decide_eq_false_iff_not ∧
  type_of% @Int.toNat_natCast ∧
  type_of% @Nat.zero_add ∧
  type_of% @Nat.add_zero ∧
  type_of% @Nat.mul_one ∧
  type_of% @forall_const.{1} ∧
  type_of% @eq_self.{1} ∧
  type_of% @Bool.false_eq_true ∧
  type_of% @Bool.true_eq_false ∧
  type_of% @false_implies ∧
  type_of% @true_implies ∧
  type_of% @beq_true ∧
  type_of% @beq_false ∧
  type_of% @if_true.{1} ∧
  type_of% @if_false.{1} ∧
  type_of% @List.cons_append.{0} ∧
  type_of% @List.nil_append.{0} ∧
  type_of% @Nat.le_refl ∧
  type_of% @Nat.lt_add_one ∧
  type_of% @Go.Lg.stO.eq_1 ∧
  type_of% @Go.Lg.slO.eq_1 ∧
  type_of% @Go.Lg.slO.eq_2 ∧
  type_of% @Go.Lg.SS.v.eq_1 ∧
  type_of% @Go.Lg.SS.v.eq_2 ∧
  type_of% @Go.Lg.SS.v.eq_3 ∧
  type_of% @Go.Lg.SS.v.eq_4 ∧
  type_of% @Go.Lg.SS.v.eq_5 ∧
  type_of% @Go.Lg.SS.v.eq_6 ∧
  type_of% @Go.Lg.SS.v.eq_7 ∧
  type_of% @Go.Lg.SS.v.eq_8 ∧
  type_of% @Go.Lg.SS.v.eq_9 ∧
  type_of% @Go.Lg.SS.v.eq_10 ∧
  type_of% @Go.Lg.SS.v.eq_11 ∧
  type_of% @Go.Lg.SS.v.eq_12 ∧
  type_of% @Go.Lg.SS.v.eq_13 ∧
  type_of% @Go.Lg.hpO.eq_1 ∧
  type_of% @Go.Lg.hpO.eq_2 ∧
  type_of% @Go.Lg.hpO.eq_3 ∧
  type_of% @Go.Lg.hpO.eq_4 ∧
  type_of% @Go.Lg.hpO.eq_5 ∧
  type_of% @Go.Lg.hpO.eq_6 ∧
  type_of% @Go.Lg.hpO.eq_7 ∧
  type_of% @Go.Lg.hpO.eq_8 :=
  ⟨@List.getD_cons_zero.{0}, @List.getD_cons_succ.{0}, @List.map_cons.{0,0}, @List.map_nil.{0,0}, @List.all_cons.{0}, @List.all_nil.{0}, @true_and, @and_true, @and_self, @and_false, @false_and, @Bool.true_and, @Bool.and_true, @Bool.not_true, @Bool.not_false, @beq_self_eq_true.{0}, @decide_eq_true_eq, @decide_eq_false_iff_not, @Int.toNat_natCast, @Nat.zero_add, @Nat.add_zero, @Nat.mul_one, @forall_const.{1}, @eq_self.{1}, @Bool.false_eq_true, @Bool.true_eq_false, @false_implies, @true_implies, @beq_true, @beq_false, @if_true.{1}, @if_false.{1}, @List.cons_append.{0}, @List.nil_append.{0}, @Nat.le_refl, @Nat.lt_add_one, @Go.Lg.stO.eq_1, @Go.Lg.slO.eq_1, @Go.Lg.slO.eq_2, @Go.Lg.SS.v.eq_1, @Go.Lg.SS.v.eq_2, @Go.Lg.SS.v.eq_3, @Go.Lg.SS.v.eq_4, @Go.Lg.SS.v.eq_5, @Go.Lg.SS.v.eq_6, @Go.Lg.SS.v.eq_7, @Go.Lg.SS.v.eq_8, @Go.Lg.SS.v.eq_9, @Go.Lg.SS.v.eq_10, @Go.Lg.SS.v.eq_11, @Go.Lg.SS.v.eq_12, @Go.Lg.SS.v.eq_13, @Go.Lg.hpO.eq_1, @Go.Lg.hpO.eq_2, @Go.Lg.hpO.eq_3, @Go.Lg.hpO.eq_4, @Go.Lg.hpO.eq_5, @Go.Lg.hpO.eq_6, @Go.Lg.hpO.eq_7, @Go.Lg.hpO.eq_8⟩

theorem VC6 : type_of% @Go.Lg.hpO.eq_9 ∧
  type_of% @Go.Lg.hpO.eq_10 ∧
  type_of% @Go.Lg.hpO.eq_11 ∧
  type_of% @Go.Lg.hpO.eq_12 ∧
  type_of% @Go.Lg.hpO.eq_13 ∧
  type_of% @Go.Lg.hpO.eq_14 ∧
  type_of% @Go.Lg.cnO.eq_1 ∧
  type_of% @Go.Lg.mxO.eq_1 ∧
  type_of% @Go.Lg.mxO.eq_2 ∧
  type_of% @Go.Lg.mxO.eq_3 ∧
  type_of% @Go.Lg.PK.eq_1 ∧
  type_of% @Go.Lg.entL.eq_1 ∧
  type_of% @Go.Lg.entL.eq_2 ∧
  type_of% @Go.Lg.entS.eq_1 ∧
  type_of% @Go.Lg.entS.eq_2 ∧
  type_of% @Go.Lg.entS.eq_3 ∧
  type_of% @Go.Lg.entS.eq_4 ∧
  type_of% @Go.Lg.entS.eq_5 ∧
  type_of% @Go.Lg.entS.eq_6 ∧
  type_of% @Go.Lg.entS.eq_7 ∧
  type_of% @Go.Lg.entS.eq_8 ∧
  type_of% @Go.Lg.entS.eq_9 ∧
  type_of% @Go.Lg.entS.eq_10 ∧
  type_of% @Go.Lg.entS.eq_11 ∧
  type_of% @Go.Lg.entS.eq_12 ∧
  type_of% @Go.Lg.entS.eq_13 ∧
  type_of% @Go.Lg.ownAt.eq_1 ∧
  type_of% @Go.Lg.ownAt.eq_2 ∧
  type_of% @Go.Lg.ownAt.eq_3 ∧
  type_of% @Go.Lg.boxAt.eq_1 ∧
  type_of% @Go.Lg.boxAt.eq_2 ∧
  type_of% @List.mem_nil_iff.{0} ∧
  type_of% @List.not_mem_nil.{0} ∧
  type_of% @not_false_eq_true ∧
  type_of% @or_false ∧
  type_of% @false_or ∧
  type_of% @not_or ∧
  type_of% @true_or ∧
  type_of% @or_true ∧
  type_of% @Nat.zero_ne_one ∧
  type_of% @Go.Lg.rowV_ld ∧
  type_of% @Go.Lg.hfz.eq_1 ∧
  type_of% @Option.map_some.{0,0} ∧
  type_of% @Go.Lg.intBeq ∧
  type_of% @Go.Lg.intBne ∧
  type_of% @Bool.not_not ∧
  type_of% @decide_true ∧
  type_of% @decide_false ∧
  type_of% @not_true_eq_false ∧
  type_of% @ge_iff_le.{0} ∧
  type_of% @gt_iff_lt.{0} ∧
  type_of% @ite_not.{0} ∧
  type_of% @Bool.true_or ∧
  type_of% @Bool.or_true ∧
  type_of% @Bool.false_or ∧
  type_of% @Bool.or_false ∧
  type_of% @Bool.false_and ∧
  type_of% @Bool.and_false ∧
  type_of% @List.length_nil.{0} ∧
  type_of% @List.length_cons.{0} :=
  ⟨@Go.Lg.hpO.eq_9, @Go.Lg.hpO.eq_10, @Go.Lg.hpO.eq_11, @Go.Lg.hpO.eq_12, @Go.Lg.hpO.eq_13, @Go.Lg.hpO.eq_14, @Go.Lg.cnO.eq_1, @Go.Lg.mxO.eq_1, @Go.Lg.mxO.eq_2, @Go.Lg.mxO.eq_3, @Go.Lg.PK.eq_1, @Go.Lg.entL.eq_1, @Go.Lg.entL.eq_2, @Go.Lg.entS.eq_1, @Go.Lg.entS.eq_2, @Go.Lg.entS.eq_3, @Go.Lg.entS.eq_4, @Go.Lg.entS.eq_5, @Go.Lg.entS.eq_6, @Go.Lg.entS.eq_7, @Go.Lg.entS.eq_8, @Go.Lg.entS.eq_9, @Go.Lg.entS.eq_10, @Go.Lg.entS.eq_11, @Go.Lg.entS.eq_12, @Go.Lg.entS.eq_13, @Go.Lg.ownAt.eq_1, @Go.Lg.ownAt.eq_2, @Go.Lg.ownAt.eq_3, @Go.Lg.boxAt.eq_1, @Go.Lg.boxAt.eq_2, @List.mem_nil_iff.{0}, @List.not_mem_nil.{0}, @not_false_eq_true, @or_false, @false_or, @not_or, @true_or, @or_true, @Nat.zero_ne_one, @Go.Lg.rowV_ld, @Go.Lg.hfz.eq_1, @Option.map_some.{0,0}, @Go.Lg.intBeq, @Go.Lg.intBne, @Bool.not_not, @decide_true, @decide_false, @not_true_eq_false, @ge_iff_le.{0}, @gt_iff_lt.{0}, @ite_not.{0}, @Bool.true_or, @Bool.or_true, @Bool.false_or, @Bool.or_false, @Bool.false_and, @Bool.and_false, @List.length_nil.{0}, @List.length_cons.{0}⟩

theorem VC7 : type_of% @Go.Lg.imV.eq_1 ∧
  type_of% @Go.Lg.imV.eq_2 ∧
  type_of% @Go.Lg.imV.eq_3 ∧
  type_of% @Go.Lg.imV.eq_4 ∧
  type_of% @Go.Lg.imV.eq_5 ∧
  type_of% @Go.Lg.imV.eq_6 ∧
  type_of% @Go.Lg.imV.eq_7 ∧
  type_of% @Go.Lg.imV.eq_8 ∧
  type_of% @Go.Lg.imV.eq_9 ∧
  type_of% @Go.Lg.imV.eq_10 ∧
  type_of% @Go.Lg.imV.eq_11 ∧
  type_of% @Go.Lg.imV.eq_12 ∧
  type_of% @Go.Lg.imV.eq_13 ∧
  type_of% @Go.Lg.imV.eq_14 ∧
  type_of% @Go.Lg.imV.eq_15 ∧
  type_of% @Go.Lg.imV.eq_16 ∧
  type_of% @Go.Lg.imV.eq_17 ∧
  type_of% @Go.Lg.V.int.injEq ∧
  type_of% @Go.Lg.V.bool.injEq ∧
  type_of% @Go.Lg.V.sl.injEq ∧
  type_of% @Go.Lg.V.str.injEq ∧
  type_of% @Int.natCast_zero ∧
  type_of% @Int.natCast_add ∧
  type_of% @Int.natCast_one ∧
  type_of% @Int.add_sub_cancel ∧
  type_of% @Nat.add_assoc ∧
  type_of% @Go.Lg.slOf.eq_1 ∧
  type_of% @Go.Lg.slOf.eq_2 ∧
  type_of% @Go.Lg.one_int ∧
  type_of% @Go.Lg.one_bool ∧
  type_of% @Go.Lg.one_str ∧
  type_of% @Go.Lg.one_sl ∧
  type_of% @Go.Lg.one_e0 ∧
  type_of% @Go.Lg.one_msl ∧
  type_of% @Go.Lg.one_mp ∧
  type_of% @Go.Lg.one_ip ∧
  type_of% @Go.Lg.one_nilp ∧
  type_of% @Go.Lg.one_fn ∧
  type_of% @Go.Lg.one_ifc ∧
  type_of% @Go.Lg.one_nili ∧
  type_of% @Nat.sub_zero ∧
  type_of% @Int.cast_ofNat_Int ∧
  type_of% @Int.le_refl ∧
  type_of% @Go.Lg.vcg_join ∧
  type_of% @List.drop_zero.{0} ∧
  type_of% @Go.Lg.vcg_regb ∧
  type_of% @Go.Lg.vopsB_nil ∧
  type_of% @Go.Lg.vopsB_consF ∧
  type_of% @Go.Lg.vopsB_consT ∧
  type_of% @Go.Lg.vstepL_none ∧
  type_of% @Go.Lg.litR_bsl ∧
  type_of% @Go.Lg.rmut.eq_1 ∧
  type_of% @Go.Lg.rmut.eq_2 ∧
  type_of% @Go.Lg.lappE.eq_1 ∧
  type_of% @Go.Lg.lappE.eq_2 ∧
  type_of% @Go.Lg.St.call.eq_1 ∧
  type_of% @Go.Lg.St.back.eq_1 ∧
  type_of% @Go.Lg.callTm_app ∧
  type_of% @Go.Lg.backTm_app ∧
  type_of% @Go.Lg.mapAt.eq_1 :=
  ⟨@Go.Lg.imV.eq_1, @Go.Lg.imV.eq_2, @Go.Lg.imV.eq_3, @Go.Lg.imV.eq_4, @Go.Lg.imV.eq_5, @Go.Lg.imV.eq_6, @Go.Lg.imV.eq_7, @Go.Lg.imV.eq_8, @Go.Lg.imV.eq_9, @Go.Lg.imV.eq_10, @Go.Lg.imV.eq_11, @Go.Lg.imV.eq_12, @Go.Lg.imV.eq_13, @Go.Lg.imV.eq_14, @Go.Lg.imV.eq_15, @Go.Lg.imV.eq_16, @Go.Lg.imV.eq_17, @Go.Lg.V.int.injEq, @Go.Lg.V.bool.injEq, @Go.Lg.V.sl.injEq, @Go.Lg.V.str.injEq, @Int.natCast_zero, @Int.natCast_add, @Int.natCast_one, @Int.add_sub_cancel, @Nat.add_assoc, @Go.Lg.slOf.eq_1, @Go.Lg.slOf.eq_2, @Go.Lg.one_int, @Go.Lg.one_bool, @Go.Lg.one_str, @Go.Lg.one_sl, @Go.Lg.one_e0, @Go.Lg.one_msl, @Go.Lg.one_mp, @Go.Lg.one_ip, @Go.Lg.one_nilp, @Go.Lg.one_fn, @Go.Lg.one_ifc, @Go.Lg.one_nili, @Nat.sub_zero, @Int.cast_ofNat_Int, @Int.le_refl, @Go.Lg.vcg_join, @List.drop_zero.{0}, @Go.Lg.vcg_regb, @Go.Lg.vopsB_nil, @Go.Lg.vopsB_consF, @Go.Lg.vopsB_consT, @Go.Lg.vstepL_none, @Go.Lg.litR_bsl, @Go.Lg.rmut.eq_1, @Go.Lg.rmut.eq_2, @Go.Lg.lappE.eq_1, @Go.Lg.lappE.eq_2, @Go.Lg.St.call.eq_1, @Go.Lg.St.back.eq_1, @Go.Lg.callTm_app, @Go.Lg.backTm_app, @Go.Lg.mapAt.eq_1⟩

theorem VC8 : type_of% @Go.Lg.mapAt.eq_2 ∧
  type_of% @Go.Lg.boxmAt.eq_1 ∧
  type_of% @Go.Lg.boxmAt.eq_2 ∧
  type_of% @Go.Lg.ownFAt.eq_1 ∧
  type_of% @Go.Lg.ownFAt.eq_2 ∧
  type_of% @Go.Lg.ownFAt.eq_3 ∧
  type_of% @Go.Lg.boxoAt.eq_1 ∧
  type_of% @Go.Lg.boxoAt.eq_2 ∧
  type_of% @Go.Lg.SS.isBox.eq_1 ∧
  type_of% @Go.Lg.SS.isBox.eq_2 ∧
  type_of% @Go.Lg.SS.isBox.eq_3 ∧
  type_of% @Go.Lg.SS.isBox.eq_4 ∧
  type_of% @Go.Lg.SS.isBox.eq_5 ∧
  type_of% @Go.Lg.one_mm ∧
  type_of% @Go.Lg.one_im ∧
  type_of% @Go.Lg.lmsb.eq_1 ∧
  type_of% @Go.Lg.lmsb.eq_2 ∧
  type_of% @Go.Lg.lmlk.eq_1 ∧
  type_of% @Go.Lg.lmlk.eq_2 ∧
  type_of% @Go.Lg.lmlk.eq_3 ∧
  type_of% @Go.Lg.lmset.eq_1 ∧
  type_of% @Go.Lg.lmset.eq_2 ∧
  type_of% @Go.Lg.lmlen.eq_1 ∧
  type_of% @Go.Lg.lmlen.eq_2 ∧
  type_of% @Go.Lg.lmlen.eq_3 ∧
  type_of% @Go.Lg.lmlen.eq_4 ∧
  type_of% @Go.Lg.ls2b.eq_1 ∧
  type_of% @Go.Lg.ls2b.eq_2 ∧
  type_of% @Go.Lg.lb2s.eq_1 ∧
  type_of% @Go.Lg.leqa.eq_1 ∧
  type_of% @Go.Lg.leqa.eq_2 ∧
  type_of% @Go.Lg.lkV.eq_1 ∧
  type_of% @Go.Lg.lkV.eq_2 ∧
  type_of% @Go.Lg.keyV.eq_1 ∧
  type_of% @Go.Lg.keyV.eq_2 ∧
  type_of% @Go.Lg.keyV.eq_3 ∧
  type_of% @Go.Lg.keyV.eq_4 ∧
  type_of% @Go.Lg.keyV.eq_5 ∧
  type_of% @Go.Lg.findK.eq_1 ∧
  type_of% @Go.Lg.findK.eq_2 ∧
  type_of% @Go.Lg.eqK.eq_1 ∧
  type_of% @Go.Lg.eqK.eq_2 ∧
  type_of% @Go.Lg.eqK.eq_3 ∧
  type_of% @Go.Lg.eqK.eq_4 ∧
  type_of% @Go.Lg.eqK.eq_5 ∧
  type_of% @Go.Lg.eqInts.eq_1 ∧
  type_of% @Go.Lg.eqInts.eq_2 ∧
  type_of% @Go.Lg.eqInts.eq_3 ∧
  type_of% @Go.Lg.intsK.eq_1 ∧
  type_of% @Go.Lg.intsK.eq_2 ∧
  type_of% @Go.Lg.intsK.eq_3 ∧
  type_of% @Go.Lg.isSlV.eq_1 ∧
  type_of% @Go.Lg.isSlV.eq_2 ∧
  type_of% @Go.Lg.isSlV.eq_3 ∧
  type_of% @Go.Lg.isSlV.eq_4 ∧
  type_of% @Go.Lg.boxGAt.eq_1 ∧
  type_of% @Go.Lg.boxGAt.eq_2 ∧
  type_of% @Go.Lg.cutAt.eq_1 ∧
  type_of% @Go.Lg.cutAt.eq_2 ∧
  type_of% @Go.Lg.cutAt.eq_3 :=
  ⟨@Go.Lg.mapAt.eq_2, @Go.Lg.boxmAt.eq_1, @Go.Lg.boxmAt.eq_2, @Go.Lg.ownFAt.eq_1, @Go.Lg.ownFAt.eq_2, @Go.Lg.ownFAt.eq_3, @Go.Lg.boxoAt.eq_1, @Go.Lg.boxoAt.eq_2, @Go.Lg.SS.isBox.eq_1, @Go.Lg.SS.isBox.eq_2, @Go.Lg.SS.isBox.eq_3, @Go.Lg.SS.isBox.eq_4, @Go.Lg.SS.isBox.eq_5, @Go.Lg.one_mm, @Go.Lg.one_im, @Go.Lg.lmsb.eq_1, @Go.Lg.lmsb.eq_2, @Go.Lg.lmlk.eq_1, @Go.Lg.lmlk.eq_2, @Go.Lg.lmlk.eq_3, @Go.Lg.lmset.eq_1, @Go.Lg.lmset.eq_2, @Go.Lg.lmlen.eq_1, @Go.Lg.lmlen.eq_2, @Go.Lg.lmlen.eq_3, @Go.Lg.lmlen.eq_4, @Go.Lg.ls2b.eq_1, @Go.Lg.ls2b.eq_2, @Go.Lg.lb2s.eq_1, @Go.Lg.leqa.eq_1, @Go.Lg.leqa.eq_2, @Go.Lg.lkV.eq_1, @Go.Lg.lkV.eq_2, @Go.Lg.keyV.eq_1, @Go.Lg.keyV.eq_2, @Go.Lg.keyV.eq_3, @Go.Lg.keyV.eq_4, @Go.Lg.keyV.eq_5, @Go.Lg.findK.eq_1, @Go.Lg.findK.eq_2, @Go.Lg.eqK.eq_1, @Go.Lg.eqK.eq_2, @Go.Lg.eqK.eq_3, @Go.Lg.eqK.eq_4, @Go.Lg.eqK.eq_5, @Go.Lg.eqInts.eq_1, @Go.Lg.eqInts.eq_2, @Go.Lg.eqInts.eq_3, @Go.Lg.intsK.eq_1, @Go.Lg.intsK.eq_2, @Go.Lg.intsK.eq_3, @Go.Lg.isSlV.eq_1, @Go.Lg.isSlV.eq_2, @Go.Lg.isSlV.eq_3, @Go.Lg.isSlV.eq_4, @Go.Lg.boxGAt.eq_1, @Go.Lg.boxGAt.eq_2, @Go.Lg.cutAt.eq_1, @Go.Lg.cutAt.eq_2, @Go.Lg.cutAt.eq_3⟩

theorem VC9 : type_of% @Go.Lg.vcg_regf ∧
  type_of% @Go.Lg.vcg_regg ∧
  type_of% @Go.Lg.vopsL_one ∧
  type_of% @Go.Lg.vopsL_cons ∧
  type_of% @Go.Lg.leqf.eq_1 ∧
  type_of% @Go.Lg.leqf.eq_2 ∧
  type_of% @Go.Lg.leqf.eq_3 ∧
  type_of% @Go.Lg.leqf.eq_4 ∧
  type_of% @Go.Lg.queAt.eq_1 ∧
  type_of% @Go.Lg.queAt.eq_2 ∧
  type_of% @Go.Lg.queAt.eq_3 ∧
  type_of% @Go.Lg.vcg_regh ∧
  type_of% @Go.Lg.vopsH_z ∧
  type_of% @Go.Lg.vopsH_cons ∧
  type_of% @Go.Lg.vcg_regv ∧
  type_of% @Go.Lg.vT_leaf ∧
  type_of% @Go.Lg.vT_none ∧
  type_of% @Go.Lg.vT_alt ∧
  type_of% @Go.Lg.loAt_z ∧
  type_of% @Go.Lg.loAt_s :=
  ⟨@Go.Lg.vcg_regf, @Go.Lg.vcg_regg, @Go.Lg.vopsL_one, @Go.Lg.vopsL_cons, @Go.Lg.leqf.eq_1, @Go.Lg.leqf.eq_2, @Go.Lg.leqf.eq_3, @Go.Lg.leqf.eq_4, @Go.Lg.queAt.eq_1, @Go.Lg.queAt.eq_2, @Go.Lg.queAt.eq_3, @Go.Lg.vcg_regh, @Go.Lg.vopsH_z, @Go.Lg.vopsH_cons, @Go.Lg.vcg_regv, @Go.Lg.vT_leaf, @Go.Lg.vT_none, @Go.Lg.vT_alt, @Go.Lg.loAt_z, @Go.Lg.loAt_s⟩

end Go.Lg

set_option linter.unusedSimpArgs false
set_option linter.unusedVariables false
namespace Go.Lg
open Go Go.RowKit

/-- Types whose values are not looked into. -/
def otherOk (P : Program) : TypeDesc → Bool
  | .bool | .int _ | .string | .struct _ | .array .. => false
  | .slice e => P.cellsOf e == 0
  | _ => true

/-- The cells of a value of a type. -/
inductive Ty (P : Program) : TypeId → List V → Prop
  | bool (t b) : P.underlying t = some .bool → Ty P t [.bool b]
  | int (t k n) : P.underlying t = some (.int k) → (Lit.int k n).wf = true → Ty P t [.int k n]
  | str (t s) : P.underlying t = some .string → s.size ≤ maxLen → Ty P t [.str s]
  | struct (t fs cs) : P.underlying t = some (.struct fs) → cs.length = P.cellsOf t → (∀ f ∈ fs.toList, Ty P f.type ((cs.drop f.offset).take (P.cellsOf f.type))) → Ty P t cs
  | array (t n e cs) : P.underlying t = some (.array n e) → cs.length = P.cellsOf t → (∀ i, i < n → Ty P e ((cs.drop (i * P.cellsOf e)).take (P.cellsOf e))) → Ty P t cs
  | slice (t e n cs) : P.underlying t = some (.slice e) → cs.length = n * P.cellsOf e → n ≤ maxLen → (∀ i, i < n → Ty P e ((cs.drop (i * P.cellsOf e)).take (P.cellsOf e))) → Ty P t [.sl n cs]
  | other (t d) : P.underlying t = some d → otherOk P d = true → Ty P t [.junk]

section
variable {P : Program} {H : Type} {enc : TypeId × Value → H} {w : World}

/-- Cells of the model and logical ones. -/
def CellsRep (w : World) (cs : List Value) (xs : List V) : Prop :=
  xs.length = cs.length ∧ ∀ (j : Nat) (v : Value) (x : V), cs[j]? = some v → xs[j]? = some x → RepI (· < w.heap.size) w v x

theorem CellsRep.one {v : Value} {x : V} (h : RepI (· < w.heap.size) w v x) : CellsRep w [v] [x] := by
  refine ⟨rfl, fun j u y hu hy => ?_⟩
  cases j with
  | zero => simp at hu hy; subst hu hy; exact h
  | succ j => simp at hu

theorem cells?_spec {a : Addr} {n : Nat} {l : List Value} (h : w.cells? 0 a n = some l) : l.length = n ∧ (0 < n → ∃ us T fz, a.spot = none ∧ w.heap[a.block]? = some (.cells us T fz) ∧ a.off + n ≤ us.size ∧ ∀ j, j < n → us[a.off + j]? = l[j]?) := by
  unfold World.cells? at h
  rw [if_pos (Nat.zero_le _)] at h
  obtain ⟨h1, h2⟩ := mapM_spec h
  rw [List.length_range] at h1
  have get : ∀ j (hj : j < n), w.cell? (a.add j) = some (l[j]'(by omega)) := by
    intro j hj
    exact h2 j j _ (by simp [hj]) (List.getElem?_eq_getElem (by omega))
  refine ⟨h1, fun hn => ?_⟩
  have h0 := get 0 hn
  have e0 : a.add 0 = a := by simp [Addr.add]
  rw [e0] at h0
  have hspot : a.spot = none := by
    unfold World.cell? at h0
    split at h0
    · split at h0
      · cases h0
      · rename_i hsp; simpa using hsp
    · cases h0
  obtain ⟨b, off, spot⟩ := a
  subst hspot
  unfold World.cell? at h0
  simp only [] at h0
  cases hb : w.heap[b]? with
  | none => rw [hb] at h0; cases h0
  | some ob =>
    cases ob with
    | cells us T fz =>
      have cell : ∀ j, j < n → us[off + j]? = l[j]? := by
        intro j hj
        have := get j hj
        rw [addr_add, cell_at hb] at this
        rw [this, List.getElem?_eq_getElem (by omega)]
      refine ⟨us, T, fz, rfl, rfl, ?_, cell⟩
      have hl := cell (n - 1) (by omega)
      rw [List.getElem?_eq_getElem (by omega)] at hl
      have : off + (n - 1) < us.size := by
        rcases Nat.lt_or_ge (off + (n - 1)) us.size with h' | h'
        · exact h'
        · rw [Array.getElem?_eq_none h'] at hl; cases hl
      simp only []
      omega
    | _ => rw [hb] at h0; cases h0

/-- Fields side by side. -/
def tileF (P : Program) : Nat → List Field → Option Nat
  | o, [] => some o
  | o, f :: r => if f.offset = o then tileF P (o + P.cellsOf f.type) r else none
def tileOk (P : Program) (t : TypeId) : Bool := match P.underlying t with
  | some (.struct fs) => tileF P 0 fs.toList == some (P.cellsOf t)
  | some (.array n e) => n * P.cellsOf e == P.cellsOf t
  | _ => true

def compsOf (P : Program) (t : TypeId) : List TypeId := match P.underlying t with
  | some (.struct fs) => fs.toList.map (·.type)
  | some (.array _ e) | some (.slice e) => [e]
  | _ => []
/-- All types of the table are laid out side by side, and made of types of the table. -/
def tilesOk (P : Program) : Bool := (List.range P.types.size).all fun t => tileOk P t && (compsOf P t).all fun c => decide (c < P.types.size)

theorem tile_all (h : tilesOk P = true) {t : TypeId} (ht : t < P.types.size) : tileOk P t = true ∧ ∀ c ∈ compsOf P t, c < P.types.size := by
  have := List.all_eq_true.1 h t (List.mem_range.2 ht)
  simp only [Bool.and_eq_true] at this
  exact ⟨this.1, fun c hc => by simpa using List.all_eq_true.1 this.2 c hc⟩

theorem fields_rep {fuel : Nat} (ih : ∀ (t : TypeId) (cs : List Value) (d : DataW H) (p : List MemPlace), t < P.types.size → DataW.trod enc P w 0 (fun _ => true) true fuel t cs = some (d, p) → ∃ xs, Ty P t xs ∧ CellsRep w cs xs) (cs : List Value) :
    ∀ (fs : List Field) (o n : Nat), (∀ f ∈ fs, f.type < P.types.size) → tileF P o fs = some n → n ≤ cs.length → (∀ f ∈ fs, ∃ x, DataW.trod enc P w 0 (fun _ => true) true fuel f.type ((cs.drop f.offset).take (P.cellsOf f.type)) = some x) →
      ∃ xs, o ≤ n ∧ CellsRep w ((cs.drop o).take (n - o)) xs ∧ ∀ f ∈ fs, o ≤ f.offset ∧ Ty P f.type ((xs.drop (f.offset - o)).take (P.cellsOf f.type))
  | [], o, n, _, ht, hn, _ => by
    cases ht
    exact ⟨[], Nat.le_refl _, ⟨by simp, fun j v x h => by simp at h⟩, fun f h => by cases h⟩
  | f :: r, o, n, hin, ht, hn, hf => by
    simp only [tileF] at ht
    split at ht
    case isFalse => cases ht
    rename_i hoff
    obtain ⟨xs', hle, hrep, hty⟩ := fields_rep ih cs r _ n (fun f hm => hin f (List.mem_cons_of_mem _ hm)) ht hn fun f hm => hf f (List.mem_cons_of_mem _ hm)
    obtain ⟨⟨d, p⟩, hx⟩ := hf f (List.mem_cons_self ..)
    obtain ⟨ys, hyt, hyr⟩ := ih _ _ _ _ (hin f (List.mem_cons_self ..)) hx
    rw [hoff] at hx hyr
    have hyl : ys.length = P.cellsOf f.type := by
      rw [hyr.1, List.length_take, List.length_drop]; omega
    have hsplit : (cs.drop o).take (n - o) = (cs.drop o).take (P.cellsOf f.type) ++ (cs.drop (o + P.cellsOf f.type)).take (n - (o + P.cellsOf f.type)) := by
      have e1 : n - o = P.cellsOf f.type + (n - (o + P.cellsOf f.type)) := by omega
      rw [e1, List.take_add, List.drop_drop]
    refine ⟨ys ++ xs', by omega, ?_, fun g hg => ?_⟩
    · rw [hsplit]
      refine ⟨by rw [List.length_append, List.length_append, hyr.1, hrep.1], fun j v x hv hx' => ?_⟩
      have hl : ((cs.drop o).take (P.cellsOf f.type)).length = ys.length := hyr.1.symm
      rw [List.getElem?_append, hl] at hv
      rw [List.getElem?_append] at hx'
      split at hv
      · rename_i hlt; rw [if_pos hlt] at hx'; exact hyr.2 j v x hv hx'
      · rename_i hlt; rw [if_neg hlt] at hx'; exact hrep.2 _ v x hv hx'
    · rcases List.mem_cons.1 hg with rfl | hg
      · refine ⟨by omega, ?_⟩
        rw [hoff, Nat.sub_self, List.drop_zero, List.take_append_of_le_length (by omega), List.take_of_length_le (by omega)]
        exact hyt
      · obtain ⟨h1, h2⟩ := hty g hg
        refine ⟨by omega, ?_⟩
        rw [List.drop_append, List.drop_eq_nil_of_le (by omega), List.nil_append, show g.offset - o - ys.length = g.offset - (o + P.cellsOf f.type) by omega]
        exact h2

/-- Elements side by side, each read by itself. -/
theorem elems_rep {e s : Nat} : ∀ (n : Nat) (get : Nat → List Value), (∀ i, i < n → (get i).length = s ∧ ∃ xs, Ty P e xs ∧ CellsRep w (get i) xs) →
    ∃ xs, CellsRep w ((List.range n).flatMap get) xs ∧ xs.length = n * s ∧ ∀ i, i < n → Ty P e ((xs.drop (i * s)).take s)
  | 0, get, _ => ⟨[], ⟨rfl, fun j v x h => by simp at h⟩, by simp, fun i h => by omega⟩
  | n + 1, get, h => by
    obtain ⟨xs, h1, h2, h3⟩ := elems_rep n get fun i hi => h i (by omega)
    obtain ⟨hl, ys, hy1, hy2⟩ := h n (by omega)
    have hyl : ys.length = s := by rw [hy2.1, hl]
    rw [List.range_succ, List.flatMap_append]
    simp only [List.flatMap_cons, List.flatMap_nil, List.append_nil]
    refine ⟨xs ++ ys, ⟨by rw [List.length_append, List.length_append, h1.1, hy2.1], fun j v x hv hx => ?_⟩, by rw [List.length_append, h2, hyl, Nat.add_mul]; omega, fun i hi => ?_⟩
    · rw [List.getElem?_append, ← h1.1] at hv
      rw [List.getElem?_append] at hx
      split at hv
      · rename_i hlt; rw [if_pos hlt] at hx; exact h1.2 j v x hv hx
      · rename_i hlt; rw [if_neg hlt] at hx; exact hy2.2 _ v x hv hx
    · rcases Nat.lt_or_ge i n with hlt | hge
      · have hm : i * s + s ≤ n * s := by
          have := Nat.mul_le_mul_right s (show i + 1 ≤ n by omega)
          rw [Nat.add_mul] at this; omega
        rw [List.drop_append_of_le_length (by omega), List.take_append_of_le_length (by rw [List.length_drop]; omega)]
        exact h3 i hlt
      · obtain rfl : i = n := by omega
        rw [List.drop_append, List.drop_eq_nil_of_le (by omega), h2, Nat.sub_self]
        simp only [List.nil_append, List.drop_zero]
        rw [List.take_of_length_le (by omega)]
        exact hy1

theorem trod_rep (htile : tilesOk P = true) : ∀ (fuel : Nat) (t : TypeId) (cs : List Value) (d : DataW H) (p : List MemPlace), t < P.types.size → DataW.trod enc P w 0 (fun _ => true) true fuel t cs = some (d, p) → ∃ xs, Ty P t xs ∧ CellsRep w cs xs
  | 0, t, cs, d, p, _, h => by cases h
  | fuel + 1, t, cs, d, p, hin, h => by
    have ih := trod_rep htile fuel
    obtain ⟨hto, hcomp⟩ := tile_all htile hin
    have h0 := h
    cases ht : P.underlying t with
    | none => unfold DataW.trod at h; rw [ht] at h; cases h
    | some td =>
      have other : ∀ v, cs = [v] → otherOk P td = true → ∃ xs, Ty P t xs ∧ CellsRep w cs xs := by
        intro v e hm
        subst e
        exact ⟨[.junk], .other t td ht hm, CellsRep.one (.junk _)⟩
      cases td with
      | bool =>
        obtain ⟨b, rfl, _⟩ := DataW.trod_bool ht h
        exact ⟨_, .bool t b ht, CellsRep.one (.bool b)⟩
      | int k =>
        obtain ⟨n, rfl, _, hw⟩ := DataW.trod_int ht h
        exact ⟨_, .int t k n ht hw, CellsRep.one (.int k n)⟩
      | string =>
        obtain ⟨s, rfl, _, hs⟩ := DataW.trod_string ht h
        exact ⟨_, .str t s ht hs, CellsRep.one (.str s)⟩
      | struct fs =>
        obtain ⟨ys, n, hn, _, hl, hlen, hf⟩ := DataW.trod_struct ht h
        obtain rfl : n = fuel := by omega
        simp only [tileOk, ht, beq_iff_eq] at hto
        obtain ⟨xs, h1, h2, h3⟩ := fields_rep ih cs fs.toList 0 _ (fun f hm => hcomp _ (by simp only [compsOf, ht]; exact List.mem_map_of_mem hm)) hto (by omega) (fun f hm => by
          obtain ⟨i, hi⟩ := List.mem_iff_getElem?.1 hm
          rw [Array.getElem?_toList] at hi
          have hlt : i < fs.size := by
            rcases Nat.lt_or_ge i fs.size with h' | h'
            · exact h'
            · rw [Array.getElem?_eq_none h'] at hi; cases hi
          exact ⟨ys[i], by rw [hf i f hi, List.getElem?_eq_getElem (by omega)]⟩)
        rw [List.drop_zero, Nat.sub_zero, List.take_of_length_le (by omega)] at h2
        exact ⟨xs, .struct t fs xs ht (by rw [h2.1, hl]) (fun f hm => by simpa using (h3 f hm).2), h2⟩
      | array n e =>
        obtain ⟨ys, m, hm, _, hl, hlen, hf⟩ := DataW.trod_array ht h
        obtain rfl : m = fuel := by omega
        simp only [tileOk, ht, beq_iff_eq] at hto
        obtain ⟨xs, h1, h2, h3⟩ := elems_rep (P := P) (e := e) (s := P.cellsOf e) (w := w) n (fun i => (cs.drop (i * P.cellsOf e)).take (P.cellsOf e)) (fun i hi => by
          refine ⟨?_, ?_⟩
          · have hmm : i * P.cellsOf e + P.cellsOf e ≤ n * P.cellsOf e := by
              have := Nat.mul_le_mul_right (P.cellsOf e) (show i + 1 ≤ n by omega)
              rw [Nat.add_mul] at this; omega
            rw [List.length_take, List.length_drop]; omega
          · have hx := hf i hi
            rw [List.getElem?_eq_getElem (by omega)] at hx
            exact ih _ _ _ _ (hcomp e (by simp [compsOf, ht])) hx)
        have hcs : (List.range n).flatMap (fun i => (cs.drop (i * P.cellsOf e)).take (P.cellsOf e)) = cs := by
          have key : ∀ m, m ≤ n → (List.range m).flatMap (fun i => (cs.drop (i * P.cellsOf e)).take (P.cellsOf e)) = cs.take (m * P.cellsOf e) := by
            intro m
            induction m with
            | zero => intro _; simp
            | succ m ihm =>
              intro hm
              rw [List.range_succ, List.flatMap_append, ihm (by omega)]
              simp only [List.flatMap_cons, List.flatMap_nil, List.append_nil]
              rw [Nat.add_mul, Nat.one_mul, List.take_add]
          rw [key n (Nat.le_refl _), List.take_of_length_le (by omega)]
        rw [hcs] at h1
        exact ⟨xs, .array t n e xs ht (by rw [h1.1, hl]) h3, h1⟩
      | slice e =>
        unfold DataW.trod at h
        rw [ht] at h
        simp only [] at h
        by_cases hz : P.cellsOf e = 0
        · obtain ⟨a, l, c, rfl⟩ := Joins.slice_form ht h0
          exact other _ rfl (by simp [otherOk, hz])
        · have hp : 0 < P.cellsOf e := Nat.pos_of_ne_zero hz
          obtain ⟨a, l, c, rfl⟩ := Joins.slice_form ht h0
          cases a with
          | none =>
            have hlc : l = 0 ∧ c = 0 := by
              split at h <;> first | (cases h; done) | simp_all
            obtain ⟨rfl, rfl⟩ := hlc
            exact ⟨[.sl 0 []], .slice t e 0 [] ht (by simp) (Nat.zero_le _) (fun i h => by omega), CellsRep.one (.sl0 _ _)⟩
          | some a =>
            simp only [] at h
            split at h
            case isFalse => cases h
            rename_i hcond
            simp only [Option.bind_eq_some_iff] at h
            obtain ⟨els, hels, _⟩ := h
            obtain ⟨q1, q2⟩ := mapM_spec hels
            rw [List.length_range] at q1
            have each : ∀ i, i < l → ∃ cl, w.cells? 0 (a.add (i * P.cellsOf e)) (P.cellsOf e) = some cl ∧ ∃ xs, Ty P e xs ∧ CellsRep w cl xs := by
              intro i hi
              have := q2 i i _ (by simp [hi]) (List.getElem?_eq_getElem (by omega))
              simp only [Option.bind_eq_some_iff] at this
              obtain ⟨cl, h1, h2⟩ := this
              exact ⟨cl, h1, ih _ _ _ _ (hcomp e (by simp [compsOf, ht])) h2⟩
            by_cases hl0 : l = 0
            · subst hl0
              exact ⟨[.sl 0 []], .slice t e 0 [] ht (by simp) (Nat.zero_le _) (fun i h => by omega), CellsRep.one (.sl0 _ _)⟩
            · obtain ⟨cl0, hc0, _⟩ := each 0 (by omega)
              have ea0 : a.add (0 * P.cellsOf e) = a := by simp [Addr.add]
              rw [ea0] at hc0
              obtain ⟨_, hblk⟩ := cells?_spec hc0
              obtain ⟨us, T, fz, hspot, hb, _, _⟩ := hblk hp
              clear hblk
              obtain ⟨b, off, spot⟩ := a
              simp only [] at hspot hb
              subst hspot
              obtain ⟨xs, h1, h2, h3⟩ := elems_rep (P := P) (e := e) (s := P.cellsOf e) (w := w) l (fun i => ((us.toList.drop (off + i * P.cellsOf e)).take (P.cellsOf e))) (fun i hi => by
                obtain ⟨cl, hcl, xs, hx1, hx2⟩ := each i hi
                rw [addr_add] at hcl
                obtain ⟨hlen, hsp⟩ := cells?_spec hcl
                obtain ⟨us', T', fz', _, hb', hsz, hget⟩ := hsp hp
                simp only [] at hb' hsz hget
                rw [hb] at hb'; cases hb'
                have heq : (us.toList.drop (off + i * P.cellsOf e)).take (P.cellsOf e) = cl := by
                  apply List.ext_getElem?
                  intro j
                  rw [List.getElem?_take]
                  split
                  · rename_i hj
                    rw [List.getElem?_drop, Array.getElem?_toList]
                    exact hget j hj
                  · rename_i hj
                    rw [List.getElem?_eq_none (by omega)]
                refine ⟨by rw [heq]; exact hlen, xs, hx1, by rw [heq]; exact hx2⟩)
              have hsz : off + l * P.cellsOf e ≤ us.size := by
                obtain ⟨cl, hcl, _⟩ := each (l - 1) (by omega)
                rw [addr_add] at hcl
                obtain ⟨_, hsp⟩ := cells?_spec hcl
                obtain ⟨us', T', fz', _, hb', hsz, _⟩ := hsp hp
                simp only [] at hb' hsz
                rw [hb] at hb'; cases hb'
                have : (l - 1) * P.cellsOf e + P.cellsOf e = l * P.cellsOf e := by
                  rw [← Nat.succ_mul]; congr 1; omega
                omega
              refine ⟨[.sl l xs], .slice t e l xs ht h2 (by omega) h3, CellsRep.one (.sl b off l c us T fz xs ?_ hb (by omega) hcond.2.1 fun j v x hv hx => ?_)⟩
              · rcases Nat.lt_or_ge b w.heap.size with h' | h'
                · exact h'
                · rw [Array.getElem?_eq_none h'] at hb; cases hb
              · have hjl : j < l * P.cellsOf e := by
                  rcases Nat.lt_or_ge j xs.length with h' | h'
                  · omega
                  · rw [List.getElem?_eq_none h'] at hx; cases hx
                refine h1.2 j v x ?_ hx
                have hfl : (List.range l).flatMap (fun i => ((us.toList.drop (off + i * P.cellsOf e)).take (P.cellsOf e))) = (us.toList.drop off).take (l * P.cellsOf e) := by
                  have key : ∀ m, (List.range m).flatMap (fun i => ((us.toList.drop (off + i * P.cellsOf e)).take (P.cellsOf e))) = (us.toList.drop off).take (m * P.cellsOf e) := by
                    intro m
                    induction m with
                    | zero => simp
                    | succ m ihm =>
                      rw [List.range_succ, List.flatMap_append, ihm]
                      simp only [List.flatMap_cons, List.flatMap_nil, List.append_nil]
                      rw [Nat.add_mul, Nat.one_mul, List.take_add, List.drop_drop]
                  exact key l
                rw [hfl, List.getElem?_take, if_pos hjl, List.getElem?_drop, Array.getElem?_toList]
                exact hv
      | _ =>
        have : ∃ v, cs = [v] := by
          unfold DataW.trod at h
          rw [ht] at h
          simp only [] at h
          first
            | (cases h; done)
            | (split at h <;> first | (cases h; done) | exact ⟨_, rfl⟩ | simp_all)
        obtain ⟨v, hv⟩ := this
        exact other v hv rfl

end
end Go.Lg

set_option linter.unusedSimpArgs false
set_option linter.unusedVariables false
namespace Go.Lg
open Go Go.RowKit

def kindF (P : Program) (t : TypeId) : Option IntKind := match P.underlying t with | some (.int k) => some k | _ => none
def boolF (P : Program) (t : TypeId) : Bool := match P.underlying t with | some .bool => true | _ => false
def strF (P : Program) (t : TypeId) : Bool := match P.underlying t with | some .string => true | _ => false
def stF (P : Program) (t : TypeId) : Option (List TypeId) := match P.underlying t with | some (.struct fs) => if tileOk P t then some (fs.toList.map (·.type)) else none | _ => none
def slF (P : Program) (t : TypeId) : Option (TypeId × Nat) := match P.underlying t with | some (.slice e) => some (e, P.cellsOf e) | _ => none
def arF (P : Program) (t : TypeId) : Option (Nat × TypeId × Nat) := match P.underlying t with | some (.array n e) => some (n, e, P.cellsOf e) | _ => none

/-- Cells in pieces, each with its type. -/
def Pcs (Q : TypeId → List V → Prop) : List TypeId → List V → Prop
  | [], xs => xs = []
  | t :: r, xs => ∃ p q, xs = p ++ q ∧ Q t p ∧ Pcs Q r q

section
variable {P : Program}

theorem pcs_of {Q : TypeId → List V → Prop} {xs : List V} : ∀ (fs : List Field) (o n : Nat), tileF P o fs = some n → xs.length = n → (∀ f ∈ fs, Q f.type ((xs.drop f.offset).take (P.cellsOf f.type))) → Pcs Q (fs.map (·.type)) (xs.drop o)
  | [], o, n, h, hl, _ => by
    cases h
    simp only [List.map_nil, Pcs]
    exact List.drop_eq_nil_of_le (by omega)
  | f :: r, o, n, h, hl, hf => by
    simp only [tileF] at h
    split at h
    case isFalse => cases h
    rename_i ho
    have h1 := hf f (List.mem_cons_self ..)
    rw [ho] at h1
    refine ⟨_, _, ?_, h1, pcs_of r _ n h hl fun g hg => hf g (List.mem_cons_of_mem _ hg)⟩
    rw [← List.drop_drop, List.take_append_drop]

theorem Ty.st {t : TypeId} {xs : List V} {ts : List TypeId} (h : Ty P t xs) (hs : stF P t = some ts) : Pcs (Ty P) ts xs := by
  unfold stF at hs
  cases h with
  | struct _ fs _ hu hl hf =>
    simp only [hu] at hs
    split at hs
    case isFalse => cases hs
    rename_i ht
    cases hs
    simp only [tileOk, hu, beq_iff_eq] at ht
    have := pcs_of (Q := Ty P) (xs := xs) fs.toList 0 _ ht hl hf
    simpa using this
  | other _ d hu ho => simp only [hu] at hs; cases d <;> simp_all [otherOk]
  | _ => simp_all

def IsT (P : Program) (t : TypeId) {α : Type} (f : α → List V) (ok : α → Prop) : Prop := ∀ xs, Ty P t xs → ∃ x, xs = f x ∧ ok x

def encL {α : Type} (f : α → List V) (l : List α) : V := .sl l.length (l.flatMap f)

theorem isInt {t : TypeId} (h : kindF P t = some .i64) : IsT P t (fun n : Int => [.int .i64 n]) InI64 := by
  intro xs hx
  unfold kindF at h
  cases hx with
  | int _ k n hu hw =>
    simp only [hu, Option.some.injEq] at h
    subst h
    refine ⟨n, rfl, ?_⟩
    simp [Lit.wf, IntKind.min, IntKind.max, IntKind.signed, IntKind.bits] at hw
    exact hw
  | other _ d hu ho => simp only [hu] at h; cases d <;> simp_all [otherOk]
  | _ => simp_all
theorem isBool {t : TypeId} (h : boolF P t = true) : IsT P t (fun b : Bool => [.bool b]) (fun _ => True) := by
  intro xs hx
  unfold boolF at h
  cases hx with
  | bool _ b hu => exact ⟨b, rfl, trivial⟩
  | other _ d hu ho => simp only [hu] at h; cases d <;> simp_all [otherOk]
  | _ => simp_all
theorem isStr {t : TypeId} (h : strF P t = true) : IsT P t (fun s : ByteArray => [.str s]) (fun s => s.size ≤ maxLen) := by
  intro xs hx
  unfold strF at h
  cases hx with
  | str _ b hu hs => exact ⟨b, rfl, hs⟩
  | other _ d hu ho => simp only [hu] at h; cases d <;> simp_all [otherOk]
  | _ => simp_all

theorem Ty.sl {t e : TypeId} {s : Nat} {xs : List V} (h : Ty P t xs) (hs : slF P t = some (e, s)) (hp : 0 < s) :
    ∃ n cs, xs = [.sl n cs] ∧ cs.length = n * s ∧ n ≤ maxLen ∧ ∀ i, i < n → Ty P e ((cs.drop (i * s)).take s) := by
  unfold slF at hs
  cases h with
  | slice _ e' n cs hu hl hn hi =>
    simp only [hu, Option.some.injEq, Prod.mk.injEq] at hs
    obtain ⟨rfl, rfl⟩ := hs
    exact ⟨n, cs, rfl, hl, hn, hi⟩
  | other _ d hu ho =>
    simp only [hu] at hs
    cases d with
    | slice e' =>
      simp only [Option.some.injEq, Prod.mk.injEq] at hs
      obtain ⟨rfl, rfl⟩ := hs
      simp [otherOk] at ho; omega
    | _ => cases hs
  | _ => simp_all

theorem list_of_pcs {α : Type} {f : α → List V} {ok : α → Prop} {s : Nat} (hf : ∀ x, (f x).length = s) : ∀ (n : Nat) (cs : List V), cs.length = n * s → (∀ i, i < n → ∃ x, (cs.drop (i * s)).take s = f x ∧ ok x) →
    ∃ l : List α, l.length = n ∧ cs = l.flatMap f ∧ ∀ x ∈ l, ok x
  | 0, cs, hl, _ => ⟨[], rfl, List.eq_nil_of_length_eq_zero (by omega), fun x h => by cases h⟩
  | n + 1, cs, hl, h => by
    obtain ⟨x, hx, hox⟩ := h 0 (by omega)
    have hl' : (cs.drop s).length = n * s := by rw [List.length_drop, hl, Nat.add_mul]; omega
    obtain ⟨l, h1, h2, h3⟩ := list_of_pcs hf n (cs.drop s) hl' fun i hi => by
      obtain ⟨y, hy, hoy⟩ := h (i + 1) (by omega)
      refine ⟨y, ?_, hoy⟩
      rw [List.drop_drop, show s + i * s = (i + 1) * s by rw [Nat.add_mul]; omega]
      exact hy
    refine ⟨x :: l, by simp [h1], ?_, fun y hy => ?_⟩
    · simp only [Nat.zero_mul, List.drop_zero] at hx
      rw [List.flatMap_cons, ← h2, ← hx, List.take_append_drop]
    · rcases List.mem_cons.1 hy with rfl | hy
      · exact hox
      · exact h3 y hy

theorem isSl {t e : TypeId} {s : Nat} {α : Type} {f : α → List V} {ok : α → Prop} (h : slF P t = some (e, s)) (hp : 0 < s) (hf : ∀ x, (f x).length = s) (he : IsT P e f ok) :
    IsT P t (fun l : List α => [encL f l]) (fun l => l.length ≤ maxLen ∧ ∀ x ∈ l, ok x) := by
  intro xs hx
  obtain ⟨n, cs, rfl, hl, hn, hi⟩ := hx.sl h hp
  obtain ⟨l, h1, h2, h3⟩ := list_of_pcs hf n cs hl fun i h => he _ (hi i h)
  exact ⟨l, by simp only [encL]; rw [← h2, h1], by omega, h3⟩

/-- An array, as a list. -/
theorem isAr {t e : TypeId} {s n : Nat} {α : Type} {f : α → List V} {ok : α → Prop} (h : arF P t = some (n, e, s)) (ht : tileOk P t = true) (hf : ∀ x, (f x).length = s) (he : IsT P e f ok) :
    IsT P t (fun l : List α => l.flatMap f) (fun l => l.length = n ∧ ∀ x ∈ l, ok x) := by
  intro xs hx
  unfold arF at h
  cases hx with
  | array _ n' e' _ hu hl hi =>
    simp only [hu, Option.some.injEq, Prod.mk.injEq] at h
    obtain ⟨rfl, rfl, rfl⟩ := h
    simp only [tileOk, hu, beq_iff_eq] at ht
    obtain ⟨l, h1, h2, h3⟩ := list_of_pcs hf n' xs (by omega) fun i h => he _ (hi i h)
    exact ⟨l, h2, h1, h3⟩
  | other _ d hu ho => simp only [hu] at h; cases d <;> simp_all [otherOk]
  | _ => simp_all

/-! Reading lists of records. -/
theorem flat_len {α : Type} {f : α → List V} {s : Nat} (hf : ∀ x, (f x).length = s) : ∀ (l : List α), (l.flatMap f).length = l.length * s
  | [] => by simp
  | x :: l => by rw [List.flatMap_cons, List.length_append, flat_len hf l, hf, List.length_cons, Nat.add_mul]; omega

theorem flat_rec {α : Type} {f : α → List V} {s : Nat} (hf : ∀ x, (f x).length = s) : ∀ (l : List α) (i : Nat) (h : i < l.length), ((l.flatMap f).drop (i * s)).take s = f l[i]
  | x :: l, 0, _ => by
    rw [List.flatMap_cons, Nat.zero_mul, List.drop_zero, ← hf x, List.take_left]; rfl
  | x :: l, i + 1, h => by
    rw [List.flatMap_cons, Nat.add_mul, Nat.one_mul, Nat.add_comm, List.drop_append, hf, List.drop_eq_nil_of_le (by rw [hf]; omega), List.nil_append, Nat.add_sub_cancel_left]
    exact flat_rec hf l i (by simpa using h)

theorem flat_cell {α : Type} {f : α → List V} {s : Nat} (hf : ∀ x, (f x).length = s) : ∀ (l : List α) (i j : Nat) (h : i < l.length), j < s → (l.flatMap f)[i * s + j]? = (f l[i])[j]?
  | x :: l, 0, j, _, hj => by
    rw [List.flatMap_cons, Nat.zero_mul, Nat.zero_add, List.getElem?_append_left (by rw [hf]; exact hj)]; rfl
  | x :: l, i + 1, j, h, hj => by
    rw [List.flatMap_cons, List.getElem?_append_right (by rw [hf, Nat.add_mul]; omega), hf, show (i + 1) * s + j - s = i * s + j by rw [Nat.add_mul]; omega]
    exact flat_cell hf l i j (by simpa using h) hj

end
end Go.Lg

set_option linter.unusedSimpArgs false
set_option linter.unusedVariables false
namespace Go.Lg
open Go Go.RowKit

def cI (n : Int) : List V := [.int .i64 n]
def cB (b : Bool) : List V := [.bool b]
def cS (s : ByteArray) : List V := [.str s]

structure MPath where
  loc : Int
  steps : List ByteArray
@[irreducible] def MPath.cells (p : MPath) : List V := [.int .i64 p.loc, encL cS p.steps]
def MPath.ok (p : MPath) : Prop := InI64 p.loc ∧ p.steps.length ≤ maxLen ∧ ∀ s ∈ p.steps, s.size ≤ maxLen

structure MOper where
  kind : Int
  n : Int
  path : MPath
@[irreducible] def MOper.cells (o : MOper) : List V := [.int .i64 o.kind, .int .i64 o.n, .int .i64 o.path.loc, encL cS o.path.steps]
def MOper.ok (o : MOper) : Prop := InI64 o.kind ∧ InI64 o.n ∧ o.path.ok

structure MVal where
  kind : Int
  a : MOper
  b : MOper
  op : Int
  path : MPath
  region : Int
  name : ByteArray
  regions : List Int
  args : List MOper
@[irreducible] def MVal.cells (v : MVal) : List V := [.int .i64 v.kind, .int .i64 v.a.kind, .int .i64 v.a.n, .int .i64 v.a.path.loc, encL cS v.a.path.steps, .int .i64 v.b.kind, .int .i64 v.b.n, .int .i64 v.b.path.loc, encL cS v.b.path.steps,
  .int .i64 v.op, .int .i64 v.path.loc, encL cS v.path.steps, .int .i64 v.region, .str v.name, encL cI v.regions, encL MOper.cells v.args]
def MVal.ok (v : MVal) : Prop := InI64 v.kind ∧ v.a.ok ∧ v.b.ok ∧ InI64 v.op ∧ v.path.ok ∧ InI64 v.region ∧ v.name.size ≤ maxLen ∧ (v.regions.length ≤ maxLen ∧ ∀ x ∈ v.regions, InI64 x) ∧ (v.args.length ≤ maxLen ∧ ∀ x ∈ v.args, x.ok)

structure MInst where
  kind : Int
  at' : Int
  has : Bool
  to : MPath
  val : MVal
  next : List Int
@[irreducible] def MInst.cells (x : MInst) : List V := [.int .i64 x.kind, .int .i64 x.at', .bool x.has, .int .i64 x.to.loc, encL cS x.to.steps, .int .i64 x.val.kind, .int .i64 x.val.a.kind, .int .i64 x.val.a.n, .int .i64 x.val.a.path.loc, encL cS x.val.a.path.steps,
  .int .i64 x.val.b.kind, .int .i64 x.val.b.n, .int .i64 x.val.b.path.loc, encL cS x.val.b.path.steps, .int .i64 x.val.op, .int .i64 x.val.path.loc, encL cS x.val.path.steps, .int .i64 x.val.region, .str x.val.name, encL cI x.val.regions, encL MOper.cells x.val.args, encL cI x.next]
def MInst.ok (x : MInst) : Prop := InI64 x.kind ∧ InI64 x.at' ∧ x.to.ok ∧ x.val.ok ∧ x.next.length ≤ maxLen ∧ ∀ y ∈ x.next, InI64 y

inductive RT where
  | mk (kind : Int) (name : ByteArray) (regions : List Int) (elem : List RT)
def RT.kind : RT → Int | .mk k _ _ _ => k
def RT.name : RT → ByteArray | .mk _ n _ _ => n
def RT.regions : RT → List Int | .mk _ _ r _ => r
def RT.elem : RT → List RT | .mk _ _ _ e => e
mutual
def RT.cells : RT → List V
  | .mk k n r e => [.int .i64 k, .str n, encL cI r, .sl e.length (RT.cellsL e)]
def RT.cellsL : List RT → List V
  | [] => []
  | x :: r => RT.cells x ++ RT.cellsL r
end
mutual
def RT.ok : RT → Prop
  | .mk k n r e => InI64 k ∧ n.size ≤ maxLen ∧ (r.length ≤ maxLen ∧ ∀ x ∈ r, InI64 x) ∧ e.length ≤ maxLen ∧ RT.okL e
def RT.okL : List RT → Prop
  | [] => True
  | x :: r => RT.ok x ∧ RT.okL r
end
theorem RT.cellsL_eq : ∀ l : List RT, RT.cellsL l = l.flatMap RT.cells
  | [] => rfl
  | x :: r => by rw [RT.cellsL, RT.cellsL_eq r]; rfl
theorem RT.okL_iff : ∀ l : List RT, RT.okL l ↔ ∀ x ∈ l, x.ok
  | [] => by simp [RT.okL]
  | x :: r => by rw [RT.okL, RT.okL_iff r]; simp
theorem RT.cells_eq (t : RT) : t.cells = [.int .i64 t.kind, .str t.name, encL cI t.regions, encL RT.cells t.elem] := by
  cases t with
  | mk k n r e => rw [RT.cells, RT.cellsL_eq]; rfl
theorem RT.ok_iff (t : RT) : t.ok ↔ InI64 t.kind ∧ t.name.size ≤ maxLen ∧ (t.regions.length ≤ maxLen ∧ ∀ x ∈ t.regions, InI64 x) ∧ t.elem.length ≤ maxLen ∧ ∀ x ∈ t.elem, x.ok := by
  cases t with
  | mk k n r e => rw [RT.ok, RT.okL_iff]; rfl

structure MLocal where
  name : ByteArray
  type : RT
  param : Bool
@[irreducible] def MLocal.cells (l : MLocal) : List V := [.str l.name, .int .i64 l.type.kind, .str l.type.name, encL cI l.type.regions, encL RT.cells l.type.elem, .bool l.param]
def MLocal.ok (l : MLocal) : Prop := l.name.size ≤ maxLen ∧ l.type.ok

structure Mir where
  at' : Int
  free : Int
  regions : Int
  known : List (List Int)
  locals : List MLocal
  code : List MInst
@[irreducible] def Mir.cells (m : Mir) : List V := [.int .i64 m.at', .int .i64 m.free, .int .i64 m.regions, encL (fun k : List Int => k.flatMap cI) m.known, encL MLocal.cells m.locals, encL MInst.cells m.code]
def Mir.ok (m : Mir) : Prop := InI64 m.at' ∧ InI64 m.free ∧ InI64 m.regions ∧ (m.known.length ≤ maxLen ∧ ∀ k ∈ m.known, k.length = 2 ∧ ∀ x ∈ k, InI64 x) ∧ (m.locals.length ≤ maxLen ∧ ∀ x ∈ m.locals, x.ok) ∧ (m.code.length ≤ maxLen ∧ ∀ x ∈ m.code, x.ok)

theorem cI_len (x : Int) : (cI x).length = 1 := rfl
theorem cB_len (x : Bool) : (cB x).length = 1 := rfl
theorem cS_len (x : ByteArray) : (cS x).length = 1 := rfl
theorem MPath.len (x : MPath) : x.cells.length = 2 := by simp [MPath.cells]
theorem MOper.len (x : MOper) : x.cells.length = 4 := by simp [MOper.cells]
theorem MVal.len (x : MVal) : x.cells.length = 16 := by simp [MVal.cells]
theorem MInst.len (x : MInst) : x.cells.length = 22 := by simp [MInst.cells]
theorem RT.len (x : RT) : x.cells.length = 4 := by rw [RT.cells_eq]; rfl
theorem MLocal.len (x : MLocal) : x.cells.length = 6 := by simp [MLocal.cells]
theorem Mir.len (x : Mir) : x.cells.length = 6 := by simp [Mir.cells]

theorem MOper.cells_split (o : MOper) : o.cells = cI o.kind ++ (cI o.n ++ (o.path.cells ++ [])) := by simp [MOper.cells, MPath.cells, cI]
theorem MVal.cells_split (v : MVal) : v.cells = cI v.kind ++ (v.a.cells ++ (v.b.cells ++ (cI v.op ++ (v.path.cells ++ (cI v.region ++ (cS v.name ++ ([encL cI v.regions] ++ ([encL MOper.cells v.args] ++ [])))))))) := by
  simp [MVal.cells, MOper.cells, MPath.cells, cI, cS]
theorem MInst.cells_split (x : MInst) : x.cells = cI x.kind ++ (cI x.at' ++ (cB x.has ++ (x.to.cells ++ (x.val.cells ++ ([encL cI x.next] ++ []))))) := by
  simp [MInst.cells, MVal.cells, MPath.cells, cI, cB]
theorem MLocal.cells_split (l : MLocal) : l.cells = cS l.name ++ (l.type.cells ++ (cB l.param ++ [])) := by
  simp [MLocal.cells, RT.cells_eq, cS, cB]

end Go.Lg

set_option linter.unusedSimpArgs false
set_option linter.unusedVariables false
namespace Go.Lg
open Go Go.RowKit

theorem MPath.c0 (x : MPath) : ldV false 1 x.cells 0 = some (.int .i64 x.loc) := by simp [ldV, MPath.cells]
theorem MPath.c1 (x : MPath) : ldV false 1 x.cells 1 = some (encL cS x.steps) := by simp [ldV, MPath.cells]
theorem MPath.call (x : MPath) : ldV true 2 x.cells 0 = some (.agg x.cells) := by simp only [ldV, if_true, Nat.zero_add, MPath.len, Nat.le_refl, List.drop_zero]; rw [List.take_of_length_le (by rw [MPath.len]; exact Nat.le_refl _)]
theorem MPath.snapc (x : MPath) (H : Heap) (d : Nat) : x.cells.map (snap H (d + 1)) = x.cells := by simp [MPath.cells, snap, encL]
theorem MPath.sokc (x : MPath) (H : Heap) (d : Nat) : x.cells.all (sok H (d + 1)) = true := by simp [MPath.cells, sok, encL]
theorem MPath.onec (x : MPath) : x.cells.all V.one = true := by simp [MPath.cells, V.one, encL]
theorem MPath.imvc (x : MPath) (d : Nat) : x.cells.all (imV (d + 1)) = true := by simp [MPath.cells, imV, encL]
theorem MOper.c0 (x : MOper) : ldV false 1 x.cells 0 = some (.int .i64 x.kind) := by simp [ldV, MOper.cells]
theorem MOper.c1 (x : MOper) : ldV false 1 x.cells 1 = some (.int .i64 x.n) := by simp [ldV, MOper.cells]
theorem MOper.c2 (x : MOper) : ldV false 1 x.cells 2 = some (.int .i64 x.path.loc) := by simp [ldV, MOper.cells]
theorem MOper.c3 (x : MOper) : ldV false 1 x.cells 3 = some (encL cS x.path.steps) := by simp [ldV, MOper.cells]
theorem MOper.call (x : MOper) : ldV true 4 x.cells 0 = some (.agg x.cells) := by simp only [ldV, if_true, Nat.zero_add, MOper.len, Nat.le_refl, List.drop_zero]; rw [List.take_of_length_le (by rw [MOper.len]; exact Nat.le_refl _)]
theorem MOper.s2_2 (x : MOper) : ldV true 2 x.cells 2 = some (.agg x.path.cells) := by simp [ldV, MOper.cells, MPath.cells]
theorem MOper.snapc (x : MOper) (H : Heap) (d : Nat) : x.cells.map (snap H (d + 1)) = x.cells := by simp [MOper.cells, snap, encL]
theorem MOper.sokc (x : MOper) (H : Heap) (d : Nat) : x.cells.all (sok H (d + 1)) = true := by simp [MOper.cells, sok, encL]
theorem MOper.onec (x : MOper) : x.cells.all V.one = true := by simp [MOper.cells, V.one, encL]
theorem MOper.imvc (x : MOper) (d : Nat) : x.cells.all (imV (d + 1)) = true := by simp [MOper.cells, imV, encL]
theorem MVal.c0 (x : MVal) : ldV false 1 x.cells 0 = some (.int .i64 x.kind) := by simp [ldV, MVal.cells]
theorem MVal.c1 (x : MVal) : ldV false 1 x.cells 1 = some (.int .i64 x.a.kind) := by simp [ldV, MVal.cells]
theorem MVal.c2 (x : MVal) : ldV false 1 x.cells 2 = some (.int .i64 x.a.n) := by simp [ldV, MVal.cells]
theorem MVal.c3 (x : MVal) : ldV false 1 x.cells 3 = some (.int .i64 x.a.path.loc) := by simp [ldV, MVal.cells]
theorem MVal.c4 (x : MVal) : ldV false 1 x.cells 4 = some (encL cS x.a.path.steps) := by simp [ldV, MVal.cells]
theorem MVal.c5 (x : MVal) : ldV false 1 x.cells 5 = some (.int .i64 x.b.kind) := by simp [ldV, MVal.cells]
theorem MVal.c6 (x : MVal) : ldV false 1 x.cells 6 = some (.int .i64 x.b.n) := by simp [ldV, MVal.cells]
theorem MVal.c7 (x : MVal) : ldV false 1 x.cells 7 = some (.int .i64 x.b.path.loc) := by simp [ldV, MVal.cells]
theorem MVal.c8 (x : MVal) : ldV false 1 x.cells 8 = some (encL cS x.b.path.steps) := by simp [ldV, MVal.cells]
theorem MVal.c9 (x : MVal) : ldV false 1 x.cells 9 = some (.int .i64 x.op) := by simp [ldV, MVal.cells]
theorem MVal.c10 (x : MVal) : ldV false 1 x.cells 10 = some (.int .i64 x.path.loc) := by simp [ldV, MVal.cells]
theorem MVal.c11 (x : MVal) : ldV false 1 x.cells 11 = some (encL cS x.path.steps) := by simp [ldV, MVal.cells]
theorem MVal.c12 (x : MVal) : ldV false 1 x.cells 12 = some (.int .i64 x.region) := by simp [ldV, MVal.cells]
theorem MVal.c13 (x : MVal) : ldV false 1 x.cells 13 = some (.str x.name) := by simp [ldV, MVal.cells]
theorem MVal.c14 (x : MVal) : ldV false 1 x.cells 14 = some (encL cI x.regions) := by simp [ldV, MVal.cells]
theorem MVal.c15 (x : MVal) : ldV false 1 x.cells 15 = some (encL MOper.cells x.args) := by simp [ldV, MVal.cells]
theorem MVal.call (x : MVal) : ldV true 16 x.cells 0 = some (.agg x.cells) := by simp only [ldV, if_true, Nat.zero_add, MVal.len, Nat.le_refl, List.drop_zero]; rw [List.take_of_length_le (by rw [MVal.len]; exact Nat.le_refl _)]
theorem MVal.s1_4 (x : MVal) : ldV true 4 x.cells 1 = some (.agg x.a.cells) := by simp [ldV, MVal.cells, MOper.cells]
theorem MVal.s5_4 (x : MVal) : ldV true 4 x.cells 5 = some (.agg x.b.cells) := by simp [ldV, MVal.cells, MOper.cells]
theorem MVal.s10_2 (x : MVal) : ldV true 2 x.cells 10 = some (.agg x.path.cells) := by simp [ldV, MVal.cells, MPath.cells]
theorem MVal.s3_2 (x : MVal) : ldV true 2 x.cells 3 = some (.agg x.a.path.cells) := by simp [ldV, MVal.cells, MPath.cells]
theorem MVal.s7_2 (x : MVal) : ldV true 2 x.cells 7 = some (.agg x.b.path.cells) := by simp [ldV, MVal.cells, MPath.cells]
theorem MVal.snapc (x : MVal) (H : Heap) (d : Nat) : x.cells.map (snap H (d + 1)) = x.cells := by simp [MVal.cells, snap, encL]
theorem MVal.sokc (x : MVal) (H : Heap) (d : Nat) : x.cells.all (sok H (d + 1)) = true := by simp [MVal.cells, sok, encL]
theorem MVal.onec (x : MVal) : x.cells.all V.one = true := by simp [MVal.cells, V.one, encL]
theorem MVal.imvc (x : MVal) (d : Nat) : x.cells.all (imV (d + 1)) = true := by simp [MVal.cells, imV, encL]
theorem MInst.c0 (x : MInst) : ldV false 1 x.cells 0 = some (.int .i64 x.kind) := by simp [ldV, MInst.cells]
theorem MInst.c1 (x : MInst) : ldV false 1 x.cells 1 = some (.int .i64 x.at') := by simp [ldV, MInst.cells]
theorem MInst.c2 (x : MInst) : ldV false 1 x.cells 2 = some (.bool x.has) := by simp [ldV, MInst.cells]
theorem MInst.c3 (x : MInst) : ldV false 1 x.cells 3 = some (.int .i64 x.to.loc) := by simp [ldV, MInst.cells]
theorem MInst.c4 (x : MInst) : ldV false 1 x.cells 4 = some (encL cS x.to.steps) := by simp [ldV, MInst.cells]
theorem MInst.c5 (x : MInst) : ldV false 1 x.cells 5 = some (.int .i64 x.val.kind) := by simp [ldV, MInst.cells]
theorem MInst.c6 (x : MInst) : ldV false 1 x.cells 6 = some (.int .i64 x.val.a.kind) := by simp [ldV, MInst.cells]
theorem MInst.c7 (x : MInst) : ldV false 1 x.cells 7 = some (.int .i64 x.val.a.n) := by simp [ldV, MInst.cells]
theorem MInst.c8 (x : MInst) : ldV false 1 x.cells 8 = some (.int .i64 x.val.a.path.loc) := by simp [ldV, MInst.cells]
theorem MInst.c9 (x : MInst) : ldV false 1 x.cells 9 = some (encL cS x.val.a.path.steps) := by simp [ldV, MInst.cells]
theorem MInst.c10 (x : MInst) : ldV false 1 x.cells 10 = some (.int .i64 x.val.b.kind) := by simp [ldV, MInst.cells]
theorem MInst.c11 (x : MInst) : ldV false 1 x.cells 11 = some (.int .i64 x.val.b.n) := by simp [ldV, MInst.cells]
theorem MInst.c12 (x : MInst) : ldV false 1 x.cells 12 = some (.int .i64 x.val.b.path.loc) := by simp [ldV, MInst.cells]
theorem MInst.c13 (x : MInst) : ldV false 1 x.cells 13 = some (encL cS x.val.b.path.steps) := by simp [ldV, MInst.cells]
theorem MInst.c14 (x : MInst) : ldV false 1 x.cells 14 = some (.int .i64 x.val.op) := by simp [ldV, MInst.cells]
theorem MInst.c15 (x : MInst) : ldV false 1 x.cells 15 = some (.int .i64 x.val.path.loc) := by simp [ldV, MInst.cells]
theorem MInst.c16 (x : MInst) : ldV false 1 x.cells 16 = some (encL cS x.val.path.steps) := by simp [ldV, MInst.cells]
theorem MInst.c17 (x : MInst) : ldV false 1 x.cells 17 = some (.int .i64 x.val.region) := by simp [ldV, MInst.cells]
theorem MInst.c18 (x : MInst) : ldV false 1 x.cells 18 = some (.str x.val.name) := by simp [ldV, MInst.cells]
theorem MInst.c19 (x : MInst) : ldV false 1 x.cells 19 = some (encL cI x.val.regions) := by simp [ldV, MInst.cells]
theorem MInst.c20 (x : MInst) : ldV false 1 x.cells 20 = some (encL MOper.cells x.val.args) := by simp [ldV, MInst.cells]
theorem MInst.c21 (x : MInst) : ldV false 1 x.cells 21 = some (encL cI x.next) := by simp [ldV, MInst.cells]
theorem MInst.call (x : MInst) : ldV true 22 x.cells 0 = some (.agg x.cells) := by simp only [ldV, if_true, Nat.zero_add, MInst.len, Nat.le_refl, List.drop_zero]; rw [List.take_of_length_le (by rw [MInst.len]; exact Nat.le_refl _)]
theorem MInst.s3_2 (x : MInst) : ldV true 2 x.cells 3 = some (.agg x.to.cells) := by simp [ldV, MInst.cells, MPath.cells]
theorem MInst.s5_16 (x : MInst) : ldV true 16 x.cells 5 = some (.agg x.val.cells) := by simp [ldV, MInst.cells, MVal.cells]
theorem MInst.s6_4 (x : MInst) : ldV true 4 x.cells 6 = some (.agg x.val.a.cells) := by simp [ldV, MInst.cells, MOper.cells]
theorem MInst.s10_4 (x : MInst) : ldV true 4 x.cells 10 = some (.agg x.val.b.cells) := by simp [ldV, MInst.cells, MOper.cells]
theorem MInst.s15_2 (x : MInst) : ldV true 2 x.cells 15 = some (.agg x.val.path.cells) := by simp [ldV, MInst.cells, MPath.cells]
theorem MInst.s8_2 (x : MInst) : ldV true 2 x.cells 8 = some (.agg x.val.a.path.cells) := by simp [ldV, MInst.cells, MPath.cells]
theorem MInst.s12_2 (x : MInst) : ldV true 2 x.cells 12 = some (.agg x.val.b.path.cells) := by simp [ldV, MInst.cells, MPath.cells]
theorem MInst.snapc (x : MInst) (H : Heap) (d : Nat) : x.cells.map (snap H (d + 1)) = x.cells := by simp [MInst.cells, snap, encL]
theorem MInst.sokc (x : MInst) (H : Heap) (d : Nat) : x.cells.all (sok H (d + 1)) = true := by simp [MInst.cells, sok, encL]
theorem MInst.onec (x : MInst) : x.cells.all V.one = true := by simp [MInst.cells, V.one, encL]
theorem MInst.imvc (x : MInst) (d : Nat) : x.cells.all (imV (d + 1)) = true := by simp [MInst.cells, imV, encL]
theorem RT.c0 (x : RT) : ldV false 1 x.cells 0 = some (.int .i64 x.kind) := by simp [ldV, RT.cells_eq]
theorem RT.c1 (x : RT) : ldV false 1 x.cells 1 = some (.str x.name) := by simp [ldV, RT.cells_eq]
theorem RT.c2 (x : RT) : ldV false 1 x.cells 2 = some (encL cI x.regions) := by simp [ldV, RT.cells_eq]
theorem RT.c3 (x : RT) : ldV false 1 x.cells 3 = some (encL RT.cells x.elem) := by simp [ldV, RT.cells_eq]
theorem RT.call (x : RT) : ldV true 4 x.cells 0 = some (.agg x.cells) := by simp only [ldV, if_true, Nat.zero_add, RT.len, Nat.le_refl, List.drop_zero]; rw [List.take_of_length_le (by rw [RT.len]; exact Nat.le_refl _)]
theorem RT.snapc (x : RT) (H : Heap) (d : Nat) : x.cells.map (snap H (d + 1)) = x.cells := by simp [RT.cells_eq, snap, encL]
theorem RT.sokc (x : RT) (H : Heap) (d : Nat) : x.cells.all (sok H (d + 1)) = true := by simp [RT.cells_eq, sok, encL]
theorem RT.onec (x : RT) : x.cells.all V.one = true := by simp [RT.cells_eq, V.one, encL]
theorem RT.imvc (x : RT) (d : Nat) : x.cells.all (imV (d + 1)) = true := by simp [RT.cells_eq, imV, encL]
theorem MLocal.c0 (x : MLocal) : ldV false 1 x.cells 0 = some (.str x.name) := by simp [ldV, MLocal.cells]
theorem MLocal.c1 (x : MLocal) : ldV false 1 x.cells 1 = some (.int .i64 x.type.kind) := by simp [ldV, MLocal.cells]
theorem MLocal.c2 (x : MLocal) : ldV false 1 x.cells 2 = some (.str x.type.name) := by simp [ldV, MLocal.cells]
theorem MLocal.c3 (x : MLocal) : ldV false 1 x.cells 3 = some (encL cI x.type.regions) := by simp [ldV, MLocal.cells]
theorem MLocal.c4 (x : MLocal) : ldV false 1 x.cells 4 = some (encL RT.cells x.type.elem) := by simp [ldV, MLocal.cells]
theorem MLocal.c5 (x : MLocal) : ldV false 1 x.cells 5 = some (.bool x.param) := by simp [ldV, MLocal.cells]
theorem MLocal.call (x : MLocal) : ldV true 6 x.cells 0 = some (.agg x.cells) := by simp only [ldV, if_true, Nat.zero_add, MLocal.len, Nat.le_refl, List.drop_zero]; rw [List.take_of_length_le (by rw [MLocal.len]; exact Nat.le_refl _)]
theorem MLocal.s1_4 (x : MLocal) : ldV true 4 x.cells 1 = some (.agg x.type.cells) := by simp [ldV, MLocal.cells, RT.cells_eq]
theorem MLocal.snapc (x : MLocal) (H : Heap) (d : Nat) : x.cells.map (snap H (d + 1)) = x.cells := by simp [MLocal.cells, snap, encL]
theorem MLocal.sokc (x : MLocal) (H : Heap) (d : Nat) : x.cells.all (sok H (d + 1)) = true := by simp [MLocal.cells, sok, encL]
theorem MLocal.onec (x : MLocal) : x.cells.all V.one = true := by simp [MLocal.cells, V.one, encL]
theorem MLocal.imvc (x : MLocal) (d : Nat) : x.cells.all (imV (d + 1)) = true := by simp [MLocal.cells, imV, encL]
theorem Mir.c0 (x : Mir) : ldV false 1 x.cells 0 = some (.int .i64 x.at') := by simp [ldV, Mir.cells]
theorem Mir.c1 (x : Mir) : ldV false 1 x.cells 1 = some (.int .i64 x.free) := by simp [ldV, Mir.cells]
theorem Mir.c2 (x : Mir) : ldV false 1 x.cells 2 = some (.int .i64 x.regions) := by simp [ldV, Mir.cells]
theorem Mir.c3 (x : Mir) : ldV false 1 x.cells 3 = some (encL (fun k : List Int => k.flatMap cI) x.known) := by simp [ldV, Mir.cells]
theorem Mir.c4 (x : Mir) : ldV false 1 x.cells 4 = some (encL MLocal.cells x.locals) := by simp [ldV, Mir.cells]
theorem Mir.c5 (x : Mir) : ldV false 1 x.cells 5 = some (encL MInst.cells x.code) := by simp [ldV, Mir.cells]
theorem Mir.call (x : Mir) : ldV true 6 x.cells 0 = some (.agg x.cells) := by simp only [ldV, if_true, Nat.zero_add, Mir.len, Nat.le_refl, List.drop_zero]; rw [List.take_of_length_le (by rw [Mir.len]; exact Nat.le_refl _)]
theorem Mir.snapc (x : Mir) (H : Heap) (d : Nat) : x.cells.map (snap H (d + 1)) = x.cells := by simp [Mir.cells, snap, encL]
theorem Mir.sokc (x : Mir) (H : Heap) (d : Nat) : x.cells.all (sok H (d + 1)) = true := by simp [Mir.cells, sok, encL]
theorem Mir.onec (x : Mir) : x.cells.all V.one = true := by simp [Mir.cells, V.one, encL]
theorem Mir.imvc (x : Mir) (d : Nat) : x.cells.all (imV (d + 1)) = true := by simp [Mir.cells, imV, encL]

theorem ld_flat {α : Type} {f : α → List V} {s : Nat} (hf : ∀ x, (f x).length = s) {l : List α} {i j n : Nat} {agg : Bool} (h : i < l.length) (hj : j + n ≤ s) (hn : 0 < n) : ldV agg n (l.flatMap f) (i * s + j) = ldV agg n (f l[i]) j := by
  unfold ldV
  cases agg with
  | false => simp only [Bool.false_eq_true, if_false]; exact flat_cell hf l i j h (by omega)
  | true =>
    have hm : i * s + s ≤ l.length * s := by
      have := Nat.mul_le_mul_right s (show i + 1 ≤ l.length by omega)
      rw [Nat.add_mul] at this; omega
    simp only [if_true]
    rw [if_pos (by rw [flat_len hf]; omega), if_pos (by rw [hf]; exact hj), ← flat_rec hf l i h, ← List.drop_drop, List.drop_take, List.take_take, Nat.min_eq_left (by omega)]

theorem ld_flat0 {α : Type} {f : α → List V} {s : Nat} (hf : ∀ x, (f x).length = s) {l : List α} {i n : Nat} {agg : Bool} (h : i < l.length) (hj : n ≤ s) (hn : 0 < n) : ldV agg n (l.flatMap f) (i * s) = ldV agg n (f l[i]) 0 :=
  ld_flat hf (j := 0) h (by omega) hn

theorem ld_cI {l : List Int} {i : Nat} (h : i < l.length) : ldV false 1 (l.flatMap cI) i = some (.int .i64 l[i]) := by
  have := ld_flat0 (agg := false) (n := 1) cI_len h (by decide) (by decide)
  rw [Nat.mul_one] at this; rw [this]; rfl
theorem ld_cB {l : List Bool} {i : Nat} (h : i < l.length) : ldV false 1 (l.flatMap cB) i = some (.bool l[i]) := by
  have := ld_flat0 (agg := false) (n := 1) cB_len h (by decide) (by decide)
  rw [Nat.mul_one] at this; rw [this]; rfl
theorem ld_cS {l : List ByteArray} {i : Nat} (h : i < l.length) : ldV false 1 (l.flatMap cS) i = some (.str l[i]) := by
  have := ld_flat0 (agg := false) (n := 1) cS_len h (by decide) (by decide)
  rw [Nat.mul_one] at this; rw [this]; rfl

theorem ld_one (v : V) : ldV false 1 [v] 0 = some v := rfl
theorem ld_cI0 (n : Int) : ldV false 1 (cI n) 0 = some (.int .i64 n) := rfl

theorem MInst.ld {l : List MInst} {i j n : Nat} {agg : Bool} (h : i < l.length) (hj : j + n ≤ 22) (hn : 0 < n) : ldV agg n (l.flatMap MInst.cells) (i * 22 + j) = ldV agg n l[i].cells j := ld_flat MInst.len h hj hn
theorem MInst.ld0 {l : List MInst} {i n : Nat} {agg : Bool} (h : i < l.length) (hj : n ≤ 22) (hn : 0 < n) : ldV agg n (l.flatMap MInst.cells) (i * 22) = ldV agg n l[i].cells 0 := ld_flat0 MInst.len h hj hn
theorem MLocal.ld {l : List MLocal} {i j n : Nat} {agg : Bool} (h : i < l.length) (hj : j + n ≤ 6) (hn : 0 < n) : ldV agg n (l.flatMap MLocal.cells) (i * 6 + j) = ldV agg n l[i].cells j := ld_flat MLocal.len h hj hn
theorem MLocal.ld0 {l : List MLocal} {i n : Nat} {agg : Bool} (h : i < l.length) (hj : n ≤ 6) (hn : 0 < n) : ldV agg n (l.flatMap MLocal.cells) (i * 6) = ldV agg n l[i].cells 0 := ld_flat0 MLocal.len h hj hn
theorem MOper.ld {l : List MOper} {i j n : Nat} {agg : Bool} (h : i < l.length) (hj : j + n ≤ 4) (hn : 0 < n) : ldV agg n (l.flatMap MOper.cells) (i * 4 + j) = ldV agg n l[i].cells j := ld_flat MOper.len h hj hn
theorem MOper.ld0 {l : List MOper} {i n : Nat} {agg : Bool} (h : i < l.length) (hj : n ≤ 4) (hn : 0 < n) : ldV agg n (l.flatMap MOper.cells) (i * 4) = ldV agg n l[i].cells 0 := ld_flat0 MOper.len h hj hn
theorem RT.ld {l : List RT} {i j n : Nat} {agg : Bool} (h : i < l.length) (hj : j + n ≤ 4) (hn : 0 < n) : ldV agg n (l.flatMap RT.cells) (i * 4 + j) = ldV agg n l[i].cells j := ld_flat RT.len h hj hn
theorem RT.ld0 {l : List RT} {i n : Nat} {agg : Bool} (h : i < l.length) (hj : n ≤ 4) (hn : 0 < n) : ldV agg n (l.flatMap RT.cells) (i * 4) = ldV agg n l[i].cells 0 := ld_flat0 RT.len h hj hn
theorem MPath.ld {l : List MPath} {i j n : Nat} {agg : Bool} (h : i < l.length) (hj : j + n ≤ 2) (hn : 0 < n) : ldV agg n (l.flatMap MPath.cells) (i * 2 + j) = ldV agg n l[i].cells j := ld_flat MPath.len h hj hn
theorem MPath.ld0 {l : List MPath} {i n : Nat} {agg : Bool} (h : i < l.length) (hj : n ≤ 2) (hn : 0 < n) : ldV agg n (l.flatMap MPath.cells) (i * 2) = ldV agg n l[i].cells 0 := ld_flat0 MPath.len h hj hn

theorem setCells_all {cs xs : List V} (h : cs.length = xs.length) : setCells cs 0 xs = xs := by
  simp [setCells, h]
end Go.Lg

set_option linter.unusedSimpArgs false
set_option linter.unusedVariables false
namespace Go.Lg
open Go Go.RowKit

theorem li_len (l : List Int) : (l.flatMap cI).length = l.length := by rw [flat_len cI_len, Nat.mul_one]
theorem li_snap (H : Heap) (d : Nat) (l : List Int) : (l.flatMap cI).map (snap H (d + 1)) = l.flatMap cI := by
  induction l with
  | nil => rfl
  | cons x r ih => rw [List.flatMap_cons, List.map_append, ih]; rfl
theorem li_sok (H : Heap) (d : Nat) (l : List Int) : (l.flatMap cI).all (sok H (d + 1)) = true := by
  induction l with
  | nil => rfl
  | cons x r ih => rw [List.flatMap_cons, List.all_append, ih]; rfl
theorem li_one (l : List Int) : (l.flatMap cI).all V.one = true := by
  induction l with
  | nil => rfl
  | cons x r ih => rw [List.flatMap_cons, List.all_append, ih]; rfl
theorem li_imv (d : Nat) (l : List Int) : (l.flatMap cI).all (imV d) = true := by
  induction l with
  | nil => rfl
  | cons x r ih => rw [List.flatMap_cons, List.all_append, ih]; cases d <;> rfl
theorem li_flat (d : Nat) (l : List Int) : (l.flatMap cI).all (flat d) = true := by
  induction l with
  | nil => rfl
  | cons x r ih => rw [List.flatMap_cons, List.all_append, ih]; cases d <;> rfl
theorem li_take {l : List Int} {n : Nat} (h : l.length ≤ n) : (l.flatMap cI).take n = l.flatMap cI := List.take_of_length_le (by rw [li_len]; exact h)
theorem li_set {l : List Int} {k : Nat} {v : Int} (h : k < l.length) : setCells (l.flatMap cI) k [.int .i64 v] = (l.set k v).flatMap cI := by
  induction l generalizing k with
  | nil => cases h
  | cons x r ih =>
    cases k with
    | zero => simp [setCells, cI]
    | succ k =>
      have := ih (k := k) (by simpa using h)
      simp only [setCells, List.flatMap_cons, List.set_cons_succ, cI, List.cons_append, List.nil_append, List.length_singleton, List.take_succ_cons] at this ⊢
      rw [show k + 1 + 1 = (k + 1) + 1 from rfl, List.drop_succ_cons, this]
theorem li_app (l : List Int) (x : Int) : l.flatMap cI ++ [.int .i64 x] = (l ++ [x]).flatMap cI := by rw [List.flatMap_append]; rfl
theorem li_mk (n : Nat) : (List.replicate n [V.int .i64 0]).flatten = (List.replicate n (0 : Int)).flatMap cI := by rw [List.flatMap_def, List.map_replicate]; rfl
theorem lb_len (l : List Bool) : (l.flatMap cB).length = l.length := by rw [flat_len cB_len, Nat.mul_one]
theorem lb_snap (H : Heap) (d : Nat) (l : List Bool) : (l.flatMap cB).map (snap H (d + 1)) = l.flatMap cB := by
  induction l with
  | nil => rfl
  | cons x r ih => rw [List.flatMap_cons, List.map_append, ih]; rfl
theorem lb_sok (H : Heap) (d : Nat) (l : List Bool) : (l.flatMap cB).all (sok H (d + 1)) = true := by
  induction l with
  | nil => rfl
  | cons x r ih => rw [List.flatMap_cons, List.all_append, ih]; rfl
theorem lb_one (l : List Bool) : (l.flatMap cB).all V.one = true := by
  induction l with
  | nil => rfl
  | cons x r ih => rw [List.flatMap_cons, List.all_append, ih]; rfl
theorem lb_imv (d : Nat) (l : List Bool) : (l.flatMap cB).all (imV d) = true := by
  induction l with
  | nil => rfl
  | cons x r ih => rw [List.flatMap_cons, List.all_append, ih]; cases d <;> rfl
theorem lb_flat (d : Nat) (l : List Bool) : (l.flatMap cB).all (flat d) = true := by
  induction l with
  | nil => rfl
  | cons x r ih => rw [List.flatMap_cons, List.all_append, ih]; cases d <;> rfl
theorem lb_take {l : List Bool} {n : Nat} (h : l.length ≤ n) : (l.flatMap cB).take n = l.flatMap cB := List.take_of_length_le (by rw [lb_len]; exact h)
theorem lb_set {l : List Bool} {k : Nat} {v : Bool} (h : k < l.length) : setCells (l.flatMap cB) k [.bool v] = (l.set k v).flatMap cB := by
  induction l generalizing k with
  | nil => cases h
  | cons x r ih =>
    cases k with
    | zero => simp [setCells, cB]
    | succ k =>
      have := ih (k := k) (by simpa using h)
      simp only [setCells, List.flatMap_cons, List.set_cons_succ, cB, List.cons_append, List.nil_append, List.length_singleton, List.take_succ_cons] at this ⊢
      rw [show k + 1 + 1 = (k + 1) + 1 from rfl, List.drop_succ_cons, this]
theorem lb_app (l : List Bool) (x : Bool) : l.flatMap cB ++ [.bool x] = (l ++ [x]).flatMap cB := by rw [List.flatMap_append]; rfl
theorem lb_mk (n : Nat) : (List.replicate n [V.bool false]).flatten = (List.replicate n (false : Bool)).flatMap cB := by rw [List.flatMap_def, List.map_replicate]; rfl
theorem ls_len (l : List ByteArray) : (l.flatMap cS).length = l.length := by rw [flat_len cS_len, Nat.mul_one]
theorem ls_snap (H : Heap) (d : Nat) (l : List ByteArray) : (l.flatMap cS).map (snap H (d + 1)) = l.flatMap cS := by
  induction l with
  | nil => rfl
  | cons x r ih => rw [List.flatMap_cons, List.map_append, ih]; rfl
theorem ls_sok (H : Heap) (d : Nat) (l : List ByteArray) : (l.flatMap cS).all (sok H (d + 1)) = true := by
  induction l with
  | nil => rfl
  | cons x r ih => rw [List.flatMap_cons, List.all_append, ih]; rfl
theorem ls_one (l : List ByteArray) : (l.flatMap cS).all V.one = true := by
  induction l with
  | nil => rfl
  | cons x r ih => rw [List.flatMap_cons, List.all_append, ih]; rfl
theorem ls_imv (d : Nat) (l : List ByteArray) : (l.flatMap cS).all (imV d) = true := by
  induction l with
  | nil => rfl
  | cons x r ih => rw [List.flatMap_cons, List.all_append, ih]; cases d <;> rfl
theorem ls_flat (d : Nat) (l : List ByteArray) : (l.flatMap cS).all (flat d) = true := by
  induction l with
  | nil => rfl
  | cons x r ih => rw [List.flatMap_cons, List.all_append, ih]; cases d <;> rfl
theorem ls_take {l : List ByteArray} {n : Nat} (h : l.length ≤ n) : (l.flatMap cS).take n = l.flatMap cS := List.take_of_length_le (by rw [ls_len]; exact h)
theorem ls_set {l : List ByteArray} {k : Nat} {v : ByteArray} (h : k < l.length) : setCells (l.flatMap cS) k [.str v] = (l.set k v).flatMap cS := by
  induction l generalizing k with
  | nil => cases h
  | cons x r ih =>
    cases k with
    | zero => simp [setCells, cS]
    | succ k =>
      have := ih (k := k) (by simpa using h)
      simp only [setCells, List.flatMap_cons, List.set_cons_succ, cS, List.cons_append, List.nil_append, List.length_singleton, List.take_succ_cons] at this ⊢
      rw [show k + 1 + 1 = (k + 1) + 1 from rfl, List.drop_succ_cons, this]
theorem ls_app (l : List ByteArray) (x : ByteArray) : l.flatMap cS ++ [.str x] = (l ++ [x]).flatMap cS := by rw [List.flatMap_append]; rfl
end Go.Lg

set_option linter.unusedSimpArgs false
set_option linter.unusedVariables false
namespace Go.Lg
open Go Go.RowKit

theorem MC0 : type_of% @Go.Lg.MPath.c0 ∧
  type_of% @Go.Lg.MPath.c1 ∧
  type_of% @Go.Lg.MPath.call ∧
  type_of% @Go.Lg.MPath.snapc ∧
  type_of% @Go.Lg.MPath.sokc ∧
  type_of% @Go.Lg.MPath.onec ∧
  type_of% @Go.Lg.MPath.imvc ∧
  type_of% @Go.Lg.MPath.len ∧
  type_of% @Go.Lg.MOper.c0 ∧
  type_of% @Go.Lg.MOper.c1 ∧
  type_of% @Go.Lg.MOper.c2 ∧
  type_of% @Go.Lg.MOper.c3 ∧
  type_of% @Go.Lg.MOper.call ∧
  type_of% @Go.Lg.MOper.s2_2 ∧
  type_of% @Go.Lg.MOper.snapc ∧
  type_of% @Go.Lg.MOper.sokc ∧
  type_of% @Go.Lg.MOper.onec ∧
  type_of% @Go.Lg.MOper.imvc ∧
  type_of% @Go.Lg.MOper.len ∧
  type_of% @Go.Lg.MVal.c0 ∧
  type_of% @Go.Lg.MVal.c1 ∧
  type_of% @Go.Lg.MVal.c2 ∧
  type_of% @Go.Lg.MVal.c3 ∧
  type_of% @Go.Lg.MVal.c4 ∧
  type_of% @Go.Lg.MVal.c5 ∧
  type_of% @Go.Lg.MVal.c6 ∧
  type_of% @Go.Lg.MVal.c7 ∧
  type_of% @Go.Lg.MVal.c8 ∧
  type_of% @Go.Lg.MVal.c9 ∧
  type_of% @Go.Lg.MVal.c10 ∧
  type_of% @Go.Lg.MVal.c11 ∧
  type_of% @Go.Lg.MVal.c12 ∧
  type_of% @Go.Lg.MVal.c13 ∧
  type_of% @Go.Lg.MVal.c14 ∧
  type_of% @Go.Lg.MVal.c15 ∧
  type_of% @Go.Lg.MVal.call ∧
  type_of% @Go.Lg.MVal.s1_4 ∧
  type_of% @Go.Lg.MVal.s5_4 ∧
  type_of% @Go.Lg.MVal.s10_2 ∧
  type_of% @Go.Lg.MVal.s3_2 ∧
  type_of% @Go.Lg.MVal.s7_2 ∧
  type_of% @Go.Lg.MVal.snapc ∧
  type_of% @Go.Lg.MVal.sokc ∧
  type_of% @Go.Lg.MVal.onec ∧
  type_of% @Go.Lg.MVal.imvc ∧
  type_of% @Go.Lg.MVal.len ∧
  type_of% @Go.Lg.MInst.c0 ∧
  type_of% @Go.Lg.MInst.c1 ∧
  type_of% @Go.Lg.MInst.c2 ∧
  type_of% @Go.Lg.MInst.c3 ∧
  type_of% @Go.Lg.MInst.c4 ∧
  type_of% @Go.Lg.MInst.c5 ∧
  type_of% @Go.Lg.MInst.c6 ∧
  type_of% @Go.Lg.MInst.c7 ∧
  type_of% @Go.Lg.MInst.c8 ∧
  type_of% @Go.Lg.MInst.c9 ∧
  type_of% @Go.Lg.MInst.c10 ∧
  type_of% @Go.Lg.MInst.c11 ∧
  type_of% @Go.Lg.MInst.c12 ∧
  type_of% @Go.Lg.MInst.c13 :=
  ⟨@Go.Lg.MPath.c0, @Go.Lg.MPath.c1, @Go.Lg.MPath.call, @Go.Lg.MPath.snapc, @Go.Lg.MPath.sokc, @Go.Lg.MPath.onec, @Go.Lg.MPath.imvc, @Go.Lg.MPath.len, @Go.Lg.MOper.c0, @Go.Lg.MOper.c1, @Go.Lg.MOper.c2, @Go.Lg.MOper.c3, @Go.Lg.MOper.call, @Go.Lg.MOper.s2_2, @Go.Lg.MOper.snapc, @Go.Lg.MOper.sokc, @Go.Lg.MOper.onec, @Go.Lg.MOper.imvc, @Go.Lg.MOper.len, @Go.Lg.MVal.c0, @Go.Lg.MVal.c1, @Go.Lg.MVal.c2, @Go.Lg.MVal.c3, @Go.Lg.MVal.c4, @Go.Lg.MVal.c5, @Go.Lg.MVal.c6, @Go.Lg.MVal.c7, @Go.Lg.MVal.c8, @Go.Lg.MVal.c9, @Go.Lg.MVal.c10, @Go.Lg.MVal.c11, @Go.Lg.MVal.c12, @Go.Lg.MVal.c13, @Go.Lg.MVal.c14, @Go.Lg.MVal.c15, @Go.Lg.MVal.call, @Go.Lg.MVal.s1_4, @Go.Lg.MVal.s5_4, @Go.Lg.MVal.s10_2, @Go.Lg.MVal.s3_2, @Go.Lg.MVal.s7_2, @Go.Lg.MVal.snapc, @Go.Lg.MVal.sokc, @Go.Lg.MVal.onec, @Go.Lg.MVal.imvc, @Go.Lg.MVal.len, @Go.Lg.MInst.c0, @Go.Lg.MInst.c1, @Go.Lg.MInst.c2, @Go.Lg.MInst.c3, @Go.Lg.MInst.c4, @Go.Lg.MInst.c5, @Go.Lg.MInst.c6, @Go.Lg.MInst.c7, @Go.Lg.MInst.c8, @Go.Lg.MInst.c9, @Go.Lg.MInst.c10, @Go.Lg.MInst.c11, @Go.Lg.MInst.c12, @Go.Lg.MInst.c13⟩

theorem MC1 : type_of% @Go.Lg.MInst.c14 ∧
  type_of% @Go.Lg.MInst.c15 ∧
  type_of% @Go.Lg.MInst.c16 ∧
  type_of% @Go.Lg.MInst.c17 ∧
  type_of% @Go.Lg.MInst.c18 ∧
  type_of% @Go.Lg.MInst.c19 ∧
  type_of% @Go.Lg.MInst.c20 ∧
  type_of% @Go.Lg.MInst.c21 ∧
  type_of% @Go.Lg.MInst.call ∧
  type_of% @Go.Lg.MInst.s3_2 ∧
  type_of% @Go.Lg.MInst.s5_16 ∧
  type_of% @Go.Lg.MInst.s6_4 ∧
  type_of% @Go.Lg.MInst.s10_4 ∧
  type_of% @Go.Lg.MInst.s15_2 ∧
  type_of% @Go.Lg.MInst.s8_2 ∧
  type_of% @Go.Lg.MInst.s12_2 ∧
  type_of% @Go.Lg.MInst.snapc ∧
  type_of% @Go.Lg.MInst.sokc ∧
  type_of% @Go.Lg.MInst.onec ∧
  type_of% @Go.Lg.MInst.imvc ∧
  type_of% @Go.Lg.MInst.len ∧
  type_of% @Go.Lg.RT.c0 ∧
  type_of% @Go.Lg.RT.c1 ∧
  type_of% @Go.Lg.RT.c2 ∧
  type_of% @Go.Lg.RT.c3 ∧
  type_of% @Go.Lg.RT.call ∧
  type_of% @Go.Lg.RT.snapc ∧
  type_of% @Go.Lg.RT.sokc ∧
  type_of% @Go.Lg.RT.onec ∧
  type_of% @Go.Lg.RT.imvc ∧
  type_of% @Go.Lg.RT.len ∧
  type_of% @Go.Lg.MLocal.c0 ∧
  type_of% @Go.Lg.MLocal.c1 ∧
  type_of% @Go.Lg.MLocal.c2 ∧
  type_of% @Go.Lg.MLocal.c3 ∧
  type_of% @Go.Lg.MLocal.c4 ∧
  type_of% @Go.Lg.MLocal.c5 ∧
  type_of% @Go.Lg.MLocal.call ∧
  type_of% @Go.Lg.MLocal.s1_4 ∧
  type_of% @Go.Lg.MLocal.snapc ∧
  type_of% @Go.Lg.MLocal.sokc ∧
  type_of% @Go.Lg.MLocal.onec ∧
  type_of% @Go.Lg.MLocal.imvc ∧
  type_of% @Go.Lg.MLocal.len ∧
  type_of% @Go.Lg.Mir.c0 ∧
  type_of% @Go.Lg.Mir.c1 ∧
  type_of% @Go.Lg.Mir.c2 ∧
  type_of% @Go.Lg.Mir.c3 ∧
  type_of% @Go.Lg.Mir.c4 ∧
  type_of% @Go.Lg.Mir.c5 ∧
  type_of% @Go.Lg.Mir.call ∧
  type_of% @Go.Lg.Mir.snapc ∧
  type_of% @Go.Lg.Mir.sokc ∧
  type_of% @Go.Lg.Mir.onec ∧
  type_of% @Go.Lg.Mir.imvc ∧
  type_of% @Go.Lg.Mir.len ∧
  type_of% @Go.Lg.ld_cI ∧
  type_of% @Go.Lg.ld_cB ∧
  type_of% @Go.Lg.ld_cS ∧
  type_of% @Go.Lg.ld_one :=
  ⟨@Go.Lg.MInst.c14, @Go.Lg.MInst.c15, @Go.Lg.MInst.c16, @Go.Lg.MInst.c17, @Go.Lg.MInst.c18, @Go.Lg.MInst.c19, @Go.Lg.MInst.c20, @Go.Lg.MInst.c21, @Go.Lg.MInst.call, @Go.Lg.MInst.s3_2, @Go.Lg.MInst.s5_16, @Go.Lg.MInst.s6_4, @Go.Lg.MInst.s10_4, @Go.Lg.MInst.s15_2, @Go.Lg.MInst.s8_2, @Go.Lg.MInst.s12_2, @Go.Lg.MInst.snapc, @Go.Lg.MInst.sokc, @Go.Lg.MInst.onec, @Go.Lg.MInst.imvc, @Go.Lg.MInst.len, @Go.Lg.RT.c0, @Go.Lg.RT.c1, @Go.Lg.RT.c2, @Go.Lg.RT.c3, @Go.Lg.RT.call, @Go.Lg.RT.snapc, @Go.Lg.RT.sokc, @Go.Lg.RT.onec, @Go.Lg.RT.imvc, @Go.Lg.RT.len, @Go.Lg.MLocal.c0, @Go.Lg.MLocal.c1, @Go.Lg.MLocal.c2, @Go.Lg.MLocal.c3, @Go.Lg.MLocal.c4, @Go.Lg.MLocal.c5, @Go.Lg.MLocal.call, @Go.Lg.MLocal.s1_4, @Go.Lg.MLocal.snapc, @Go.Lg.MLocal.sokc, @Go.Lg.MLocal.onec, @Go.Lg.MLocal.imvc, @Go.Lg.MLocal.len, @Go.Lg.Mir.c0, @Go.Lg.Mir.c1, @Go.Lg.Mir.c2, @Go.Lg.Mir.c3, @Go.Lg.Mir.c4, @Go.Lg.Mir.c5, @Go.Lg.Mir.call, @Go.Lg.Mir.snapc, @Go.Lg.Mir.sokc, @Go.Lg.Mir.onec, @Go.Lg.Mir.imvc, @Go.Lg.Mir.len, @Go.Lg.ld_cI, @Go.Lg.ld_cB, @Go.Lg.ld_cS, @Go.Lg.ld_one⟩

theorem MC2 : type_of% @Go.Lg.ld_cI0 ∧
  type_of% @Go.Lg.MInst.ld ∧
  type_of% @Go.Lg.MInst.ld0 ∧
  type_of% @Go.Lg.MLocal.ld ∧
  type_of% @Go.Lg.MLocal.ld0 ∧
  type_of% @Go.Lg.MOper.ld ∧
  type_of% @Go.Lg.MOper.ld0 ∧
  type_of% @Go.Lg.RT.ld ∧
  type_of% @Go.Lg.RT.ld0 ∧
  type_of% @Go.Lg.MPath.ld ∧
  type_of% @Go.Lg.MPath.ld0 ∧
  type_of% @Go.Lg.setCells_all ∧
  type_of% @Go.Lg.encL.eq_1 ∧
  type_of% @Go.Lg.li_len ∧
  type_of% @Go.Lg.li_snap ∧
  type_of% @Go.Lg.li_sok ∧
  type_of% @Go.Lg.li_one ∧
  type_of% @Go.Lg.li_imv ∧
  type_of% @Go.Lg.li_flat ∧
  type_of% @Go.Lg.li_take ∧
  type_of% @Go.Lg.li_set ∧
  type_of% @Go.Lg.li_app ∧
  type_of% @Go.Lg.li_mk ∧
  type_of% @Go.Lg.lb_len ∧
  type_of% @Go.Lg.lb_snap ∧
  type_of% @Go.Lg.lb_sok ∧
  type_of% @Go.Lg.lb_one ∧
  type_of% @Go.Lg.lb_imv ∧
  type_of% @Go.Lg.lb_flat ∧
  type_of% @Go.Lg.lb_take ∧
  type_of% @Go.Lg.lb_set ∧
  type_of% @Go.Lg.lb_app ∧
  type_of% @Go.Lg.lb_mk ∧
  type_of% @Go.Lg.ls_len ∧
  type_of% @Go.Lg.ls_snap ∧
  type_of% @Go.Lg.ls_sok ∧
  type_of% @Go.Lg.ls_one ∧
  type_of% @Go.Lg.ls_imv ∧
  type_of% @Go.Lg.ls_flat ∧
  type_of% @Go.Lg.ls_take ∧
  type_of% @Go.Lg.ls_set ∧
  type_of% @Go.Lg.ls_app ∧
  type_of% @List.mem_singleton.{0} ∧
  type_of% @List.length_replicate.{0} ∧
  type_of% @List.length_set.{0} ∧
  type_of% @List.length_append.{0} ∧
  type_of% @List.length_map.{0,0} ∧
  type_of% @List.length_range :=
  ⟨@Go.Lg.ld_cI0, @Go.Lg.MInst.ld, @Go.Lg.MInst.ld0, @Go.Lg.MLocal.ld, @Go.Lg.MLocal.ld0, @Go.Lg.MOper.ld, @Go.Lg.MOper.ld0, @Go.Lg.RT.ld, @Go.Lg.RT.ld0, @Go.Lg.MPath.ld, @Go.Lg.MPath.ld0, @Go.Lg.setCells_all, @Go.Lg.encL.eq_1, @Go.Lg.li_len, @Go.Lg.li_snap, @Go.Lg.li_sok, @Go.Lg.li_one, @Go.Lg.li_imv, @Go.Lg.li_flat, @Go.Lg.li_take, @Go.Lg.li_set, @Go.Lg.li_app, @Go.Lg.li_mk, @Go.Lg.lb_len, @Go.Lg.lb_snap, @Go.Lg.lb_sok, @Go.Lg.lb_one, @Go.Lg.lb_imv, @Go.Lg.lb_flat, @Go.Lg.lb_take, @Go.Lg.lb_set, @Go.Lg.lb_app, @Go.Lg.lb_mk, @Go.Lg.ls_len, @Go.Lg.ls_snap, @Go.Lg.ls_sok, @Go.Lg.ls_one, @Go.Lg.ls_imv, @Go.Lg.ls_flat, @Go.Lg.ls_take, @Go.Lg.ls_set, @Go.Lg.ls_app, @List.mem_singleton.{0}, @List.length_replicate.{0}, @List.length_set.{0}, @List.length_append.{0}, @List.length_map.{0,0}, @List.length_range⟩

end Go.Lg

set_option linter.unusedSimpArgs false
set_option linter.unusedVariables false
namespace Go.Lg
open Go Go.RowKit

section
variable {α : Type} (f : α → List V)

variable {f} {H : Heap} {U : Key → Prop} {K : (Key → Prop) → Prop} {esz : Nat}

end

end Go.Lg

set_option linter.unusedSimpArgs false
set_option linter.unusedVariables false
namespace Go.Lg
open Go Go.RowKit

def nz : Nat → V → V
  | 0, v => v
  | _ + 1, .e0 => .sl 0 []
  | d + 1, .agg cs => .agg (cs.map (nz d))
  | d + 1, .tup cs => .tup (cs.map (nz d))
  | d + 1, .sl n cs => .sl n (cs.map (nz d))
  | d + 1, .ip cs o => .ip (cs.map (nz d)) o
  | d + 1, .ifc t v => .ifc t (nz d v)
  | d + 1, .fn f cs => .fn f (cs.map (nz d))
  | _ + 1, v => v

theorem RepI.nz : ∀ (d : Nat) {imm : Nat → Prop} {w : World} {u : Value} {x : V}, RepI imm w u x → RepI imm w u (nz d x) := by
  intro d
  induction d with
  | zero => intro imm w u x h; exact h
  | succ d ih =>
    intro imm w u x h
    have maps : ∀ (cs : List V) (j : Nat) (c : V), (cs.map (Go.Lg.nz d))[j]? = some c → ∃ c0, cs[j]? = some c0 ∧ Go.Lg.nz d c0 = c := by
      intro cs j c hc
      simpa only [List.getElem?_map, Option.map_eq_some_iff] using hc
    cases h with
    | e0 A => exact .sl0 _ _
    | agg vs cs hs hr => exact .agg vs _ (by simpa using hs) fun j v c hv hc => by obtain ⟨c0, h0, rfl⟩ := maps cs j c hc; exact ih (hr j v c0 hv h0)
    | tup vs cs hs hr => exact .tup vs _ (by simpa using hs) fun j v c hv hc => by obtain ⟨c0, h0, rfl⟩ := maps cs j c hc; exact ih (hr j v c0 hv h0)
    | fn f vs cs hs hr => exact .fn f vs _ (by simpa using hs) fun j v c hv hc => by obtain ⟨c0, h0, rfl⟩ := maps cs j c hc; exact ih (hr j v c0 hv h0)
    | sl b off n c us T fz cs h1 h2 h3 h4 h5 => exact .sl b off n c us T fz _ h1 h2 (by simpa using h3) h4 fun j v c hv hc => by obtain ⟨c0, h0, rfl⟩ := maps cs j c hc; exact ih (h5 j v c0 hv h0)
    | ip b o off us T fz cs h1 h2 h3 h4 => exact .ip b o off us T fz _ h1 h2 (by simpa using h3) fun j v c hv hc => by obtain ⟨c0, h0, rfl⟩ := maps cs j c hc; exact ih (h4 j v c0 hv h0)
    | ifc t v x h => exact .ifc t v _ (ih h)
    | int => exact .int _ _
    | bool => exact .bool _
    | str => exact .str _
    | sl0 A c => exact .sl0 _ _
    | nilp => exact .nilp
    | nili => exact .nili
    | nilf => exact .nilf
    | nilm => exact .nilm
    | im b k ents es h1 h2 h3 h4 h5 => exact .im b k ents es h1 h2 h3 h4 h5
    | junk v => exact .junk _

theorem PRet.nz {P : Program} {f : FuncId} {args args' : List V} {r : V} (d : Nat) (he : args.map (nz d) = args') (h : PRet P f args' r) : PRet P f args r := by
  obtain ⟨hen, hc⟩ := h
  refine ⟨hen, fun imm w vs h1 h2 h3 => hc imm w vs h1 (by rw [← he]; simpa using h2) fun j u c hu hcj => ?_⟩
  rw [← he, List.getElem?_map, Option.map_eq_some_iff] at hcj
  obtain ⟨c0, h0, rfl⟩ := hcj
  exact (h3 j u c0 hu h0).nz d

end Go.Lg

set_option linter.unusedSimpArgs false
set_option linter.unusedVariables false
namespace Go.Lg
open Go Go.RowKit

section
variable {α : Type} {f : α → List V} {H : Heap} {U : Key → Prop} {K : (Key → Prop) → Prop} {esz : Nat}

end

section
variable {P : Program}
end
end Go.Lg

set_option linter.unusedSimpArgs false
set_option linter.unusedVariables false
namespace Go.Lg
theorem VCA : type_of% (And.intro VC0 (And.intro VC1 (And.intro VC2 (And.intro VC3 (And.intro VC4 (And.intro VC5 (And.intro VC6 (And.intro VC7 (And.intro VC8 VC9))))))))) := And.intro VC0 (And.intro VC1 (And.intro VC2 (And.intro VC3 (And.intro VC4 (And.intro VC5 (And.intro VC6 (And.intro VC7 (And.intro VC8 VC9))))))))
theorem MCA : type_of% (And.intro MC0 (And.intro MC1 MC2)) := And.intro MC0 (And.intro MC1 MC2)
end Go.Lg

set_option linter.unusedSimpArgs false
set_option linter.unusedVariables false
namespace Go.Lg
open Go Go.RowKit

structure MLoan where
  pt : Int
  reg : Int
  mut' : Bool
  path : MPath
@[irreducible] def MLoan.cells (x : MLoan) : List V := [.int .i64 x.pt, .int .i64 x.reg, .bool x.mut', .int .i64 x.path.loc, encL cS x.path.steps]
theorem MLoan.len (x : MLoan) : x.cells.length = 5 := by simp [MLoan.cells]
theorem MLoan.c0 (x : MLoan) : ldV false 1 x.cells 0 = some (.int .i64 x.pt) := by simp [ldV, MLoan.cells]
theorem MLoan.c1 (x : MLoan) : ldV false 1 x.cells 1 = some (.int .i64 x.reg) := by simp [ldV, MLoan.cells]
theorem MLoan.c2 (x : MLoan) : ldV false 1 x.cells 2 = some (.bool x.mut') := by simp [ldV, MLoan.cells]
theorem MLoan.c3 (x : MLoan) : ldV false 1 x.cells 3 = some (.int .i64 x.path.loc) := by simp [ldV, MLoan.cells]
theorem MLoan.c4 (x : MLoan) : ldV false 1 x.cells 4 = some (encL cS x.path.steps) := by simp [ldV, MLoan.cells]
theorem MLoan.s3_2 (x : MLoan) : ldV true 2 x.cells 3 = some (.agg x.path.cells) := by simp [ldV, MLoan.cells, MPath.cells]
theorem MLoan.call (x : MLoan) : ldV true 5 x.cells 0 = some (.agg x.cells) := by simp only [ldV, if_true, Nat.zero_add, MLoan.len, Nat.le_refl, List.drop_zero]; rw [List.take_of_length_le (by rw [MLoan.len]; exact Nat.le_refl _)]
theorem MLoan.snapc (x : MLoan) (H : Heap) (d : Nat) : x.cells.map (snap H (d + 1)) = x.cells := by simp [MLoan.cells, snap, encL]
theorem MLoan.sokc (x : MLoan) (H : Heap) (d : Nat) : x.cells.all (sok H (d + 1)) = true := by simp [MLoan.cells, sok, encL]
theorem MLoan.onec (x : MLoan) : x.cells.all V.one = true := by simp [MLoan.cells, V.one, encL]
theorem MLoan.imvc (x : MLoan) (d : Nat) : x.cells.all (imV (d + 1)) = true := by simp [MLoan.cells, imV, encL]
/-- Does a point take a loan? -/
def takes (x : MInst) : Bool := decide (x.kind = 1) && (decide (x.val.kind = 2) || decide (x.val.kind = 3))
/-- Is the one path the other one's beginning? -/
def prefS (a b : MPath) : Bool := decide (a.loc = b.loc) && (decide (a.steps.length ≤ b.steps.length) && decide (a.steps = b.steps.take a.steps.length))
end Go.Lg

set_option linter.unusedSimpArgs false
set_option linter.unusedVariables false
namespace Go.Lg
open Go Go.RowKit

def pk (p : MPath) : List (List UInt8) := p.steps.map fun s => s.toList
theorem ba_inj {a b : ByteArray} (h : a.toList = b.toList) : a = b := by
  rw [ByteArray.toList_eq, ByteArray.toList_eq] at h
  cases a; cases b
  simp only at h
  congr 1
  exact Array.toList_inj.1 h
theorem pk_inj {a b : MPath} (h : pk a = pk b) : a.steps = b.steps := by
  have : ∀ x y : List ByteArray, x.map (fun s => s.toList) = y.map (fun s => s.toList) → x = y := by
    intro x
    induction x with
    | nil => intro y h; cases y with
      | nil => rfl
      | cons z y => cases h
    | cons w x ih => intro y h; cases y with
      | nil => cases h
      | cons z y =>
        simp only [List.map_cons, List.cons.injEq] at h
        rw [ba_inj h.1, ih y h.2]
  exact this _ _ h
theorem path_ext {a b : MPath} (h1 : a.loc = b.loc) (h2 : a.steps = b.steps) : a = b := by cases a; cases b; simp only at h1 h2; rw [h1, h2]

instance : DecidableEq MPath := fun a b => decidable_of_iff (a.loc = b.loc ∧ a.steps = b.steps) ⟨fun h => path_ext h.1 h.2, fun h => by rw [h]; exact ⟨rfl, rfl⟩⟩

/-- Stands a path ahead of another one? -/
def ltP (a b : MPath) : Bool := if a.loc = b.loc then decide (pk a < pk b) else decide (a.loc < b.loc)
theorem ltP_irrefl (a : MPath) : ltP a a = false := by
  rw [ltP, if_pos rfl]; exact decide_eq_false (List.lt_irrefl _)
theorem ltP_trans {a b c : MPath} (h1 : ltP a b = true) (h2 : ltP b c = true) : ltP a c = true := by
  unfold ltP at *
  split at h1 <;> split at h2 <;> split <;> simp only [decide_eq_true_eq] at h1 h2 ⊢
  · exact List.lt_trans h1 h2
  all_goals omega
theorem ltP_tri {a b : MPath} (h1 : ltP a b = false) (h2 : ltP b a = false) : a = b := by
  unfold ltP at *
  by_cases e : a.loc = b.loc
  · rw [if_pos e] at h1; rw [if_pos e.symm] at h2
    simp only [decide_eq_false_iff_not] at h1 h2
    refine path_ext e (pk_inj ?_)
    exact List.le_antisymm (List.not_lt.1 h2) (List.not_lt.1 h1)
  · rw [if_neg e] at h1; rw [if_neg (Ne.symm e)] at h2
    simp only [decide_eq_false_iff_not] at h1 h2
    omega
theorem ltP_asymm {a b : MPath} (h : ltP a b = true) : ltP b a = false := by
  cases e : ltP b a with
  | false => rfl
  | true => have := ltP_trans h e; rw [ltP_irrefl] at this; cases this

theorem prefS_iff {a b : MPath} : prefS a b = true ↔ a.loc = b.loc ∧ a.steps <+: b.steps := by
  simp only [prefS, Bool.and_eq_true, decide_eq_true_eq]
  constructor
  · rintro ⟨h, _, h2⟩; exact ⟨h, List.prefix_iff_eq_take.2 h2⟩
  · rintro ⟨h, h2⟩; exact ⟨h, h2.length_le, List.prefix_iff_eq_take.1 h2⟩
theorem prefS_refl (a : MPath) : prefS a a = true := prefS_iff.2 ⟨rfl, List.prefix_refl _⟩
theorem prefS_trans {a b c : MPath} (h1 : prefS a b = true) (h2 : prefS b c = true) : prefS a c = true := by
  rw [prefS_iff] at *
  exact ⟨h1.1.trans h2.1, h1.2.trans h2.2⟩
theorem prefS_anti {a b : MPath} (h1 : prefS a b = true) (h2 : prefS b a = true) : a = b := by
  rw [prefS_iff] at *
  exact path_ext h1.1 (h1.2.eq_of_length_le h2.2.length_le)

/-- Lists of texts, letter by letter. -/
def lexB (x y : List ByteArray) : Bool := decide (x.map (fun s => s.toList) < y.map fun s => s.toList)
theorem ltP_eq (a b : MPath) : ltP a b = if a.loc = b.loc then lexB a.steps b.steps else decide (a.loc < b.loc) := rfl
theorem lexB_nc (y : ByteArray) (l : List ByteArray) : lexB [] (y :: l) = true := by simp [lexB]
theorem lexB_cn (y : ByteArray) (l : List ByteArray) : lexB (y :: l) [] = false := by simp [lexB]
theorem lexB_nl (l : List ByteArray) : lexB [] l = decide (0 < l.length) := by
  cases l with
  | nil => rfl
  | cons x l => simp [lexB]
theorem lexB_cc (x y : ByteArray) (l m : List ByteArray) : lexB (x :: l) (y :: m) = if x = y then lexB l m else Op.bytesLess x.toList y.toList := by
  rw [Go.Proofs.bytesLess_eq]
  unfold lexB
  rw [List.map_cons, List.map_cons, Bool.eq_iff_iff]
  split
  · rename_i e
    subst e
    rw [decide_eq_true_eq, decide_eq_true_eq, List.cons_lt_cons_iff]
    constructor
    · rintro (h | h)
      · exact absurd h (List.lt_irrefl _)
      · exact h.2
    · exact fun h => .inr ⟨rfl, h⟩
  · rename_i e
    rw [decide_eq_true_eq, decide_eq_true_eq, List.cons_lt_cons_iff]
    constructor
    · rintro (h | h)
      · exact h
      · exact absurd (ba_inj h.1) e
    · exact fun h => .inl h
theorem bl_irrefl (x : ByteArray) : Op.bytesLess x.toList x.toList = false := by rw [Go.Proofs.bytesLess_eq]; exact decide_eq_false (List.lt_irrefl _)
/-! Lists in their order. -/
def Srt (l : List MPath) : Prop := l.Pairwise fun a b => ltP a b = true
theorem srt_uniq : ∀ {a b : List MPath}, Srt a → Srt b → (∀ x, x ∈ a ↔ x ∈ b) → a = b
  | [], [], _, _, _ => rfl
  | [], y :: b, _, _, h => absurd ((h y).2 (List.mem_cons_self ..)) (List.not_mem_nil)
  | x :: a, [], _, _, h => absurd ((h x).1 (List.mem_cons_self ..)) (List.not_mem_nil)
  | x :: a, y :: b, ha, hb, h => by
    obtain ⟨ha1, ha2⟩ := List.pairwise_cons.1 ha
    obtain ⟨hb1, hb2⟩ := List.pairwise_cons.1 hb
    have e : x = y := by
      rcases List.mem_cons.1 ((h x).1 (List.mem_cons_self ..)) with e | hx
      · exact e
      rcases List.mem_cons.1 ((h y).2 (List.mem_cons_self ..)) with e | hy
      · exact e.symm
      have h1 := hb1 x hx; have h2 := ha1 y hy
      rw [ltP_asymm h1] at h2; cases h2
    subst e
    rw [srt_uniq ha2 hb2 fun z => ?_]
    have := h z
    simp only [List.mem_cons] at this
    constructor
    · intro hz
      rcases this.1 (.inr hz) with e | h3
      · subst e; have := ha1 z hz; rw [ltP_irrefl] at this; cases this
      · exact h3
    · intro hz
      rcases this.2 (.inr hz) with e | h3
      · subst e; have := hb1 z hz; rw [ltP_irrefl] at this; cases this
      · exact h3

/-- Put in where the order wants it. -/
def insP (p : MPath) : List MPath → List MPath
  | [] => [p]
  | x :: l => if ltP p x = true then p :: x :: l else x :: insP p l
theorem mem_ins {p x : MPath} : ∀ {l : List MPath}, x ∈ insP p l ↔ x = p ∨ x ∈ l
  | [] => by simp [insP]
  | y :: l => by
    rw [insP]
    split
    · simp only [List.mem_cons]
    · simp only [List.mem_cons, mem_ins (l := l)]
      constructor
      · rintro (h | h | h) <;> simp [h]
      · rintro (h | h | h) <;> simp [h]
theorem srt_ins {p : MPath} : ∀ {l : List MPath}, Srt l → p ∉ l → Srt (insP p l)
  | [], _, _ => List.pairwise_singleton ..
  | x :: l, h, hp => by
    obtain ⟨h1, h2⟩ := List.pairwise_cons.1 h
    rw [insP]
    split
    · rename_i hx
      refine List.pairwise_cons.2 ⟨fun y hy => ?_, h⟩
      rcases List.mem_cons.1 hy with e | hy
      · rw [e]; exact hx
      · exact ltP_trans hx (h1 y hy)
    · rename_i hx
      refine List.pairwise_cons.2 ⟨fun y hy => ?_, srt_ins h2 (fun e => hp (List.mem_cons_of_mem _ e))⟩
      rcases mem_ins.1 hy with e | hy
      · subst e
        cases e2 : ltP x y with
        | true => rfl
        | false => exact absurd (ltP_tri (by simpa using hx) e2) (fun e3 => hp (e3 ▸ List.mem_cons_self ..))
      · exact h1 y hy

/-- What is gone behind a move. -/
def addS (l : List MPath) (p : MPath) : List MPath := if l.any (fun x => prefS x p) = true then l else insP p (l.filter fun x => !prefS p x)
/-- Has a path a star? -/
def starS (p : MPath) : Bool := p.steps.any fun s => decide (s = ⟨#[42]⟩)
/-- What is gone behind a set. -/
def putS (l : List MPath) (p : MPath) : List MPath := if (starS p || l.any fun x => prefS x p && !prefS p x) = true then l else l.filter fun x => !prefS p x

theorem srt_filter {l : List MPath} (f : MPath → Bool) (h : Srt l) : Srt (l.filter f) := h.sublist List.filter_sublist
theorem srt_add {l : List MPath} {p : MPath} (h : Srt l) : Srt (addS l p) := by
  unfold addS
  split
  · exact h
  · rename_i hn
    refine srt_ins (srt_filter _ h) fun hm => hn ?_
    exact List.any_eq_true.2 ⟨p, (List.mem_filter.1 hm).1, prefS_refl p⟩
theorem srt_put {l : List MPath} {p : MPath} (h : Srt l) : Srt (putS l p) := by
  unfold putS
  split
  · exact h
  · exact srt_filter _ h
theorem mem_add {l : List MPath} {p x : MPath} : x ∈ addS l p ↔ (l.any (fun y => prefS y p) = true ∧ x ∈ l) ∨ (l.any (fun y => prefS y p) = false ∧ (x = p ∨ (x ∈ l ∧ prefS p x = false))) := by
  unfold addS
  split
  · rename_i h; simp [h]
  · rename_i h
    rw [mem_ins, List.mem_filter]
    simp [h]
theorem mem_add_or {l : List MPath} {p x : MPath} (h : x ∈ addS l p) : x ∈ l ∨ x = p := by
  rcases mem_add.1 h with h | ⟨_, h | h⟩
  · exact .inl h.2
  · exact .inr h
  · exact .inl h.1
theorem add_ne {l : List MPath} {p : MPath} : addS l p ≠ [] := by
  intro h
  have hp : ∀ x, ¬ x ∈ addS l p := by rw [h]; exact fun x => List.not_mem_nil
  cases e : l.any fun y => prefS y p with
  | true =>
    obtain ⟨y, hy, _⟩ := List.any_eq_true.1 e
    exact hp y (mem_add.2 (.inl ⟨e, hy⟩))
  | false => exact hp p (mem_add.2 (.inr ⟨e, .inl rfl⟩))

/-! Within: each of the one list has some of the other one that is a part of it. -/
def Cov (a b : List MPath) : Prop := ∀ x ∈ a, ∃ y ∈ b, prefS y x = true
theorem Cov.rfl {a : List MPath} : Cov a a := fun x h => ⟨x, h, prefS_refl x⟩
theorem Cov.trans {a b c : List MPath} (h1 : Cov a b) (h2 : Cov b c) : Cov a c := fun x h => by
  obtain ⟨y, hy, e⟩ := h1 x h
  obtain ⟨z, hz, e2⟩ := h2 y hy
  exact ⟨z, hz, prefS_trans e2 e⟩
theorem cov_add (l : List MPath) (p : MPath) : Cov l (addS l p) ∧ ∃ y ∈ addS l p, prefS y p = true := by
  cases e : l.any fun y => prefS y p with
  | true =>
    refine ⟨fun x h => ⟨x, mem_add.2 (.inl ⟨e, h⟩), prefS_refl x⟩, ?_⟩
    obtain ⟨y, hy, h⟩ := List.any_eq_true.1 e
    exact ⟨y, mem_add.2 (.inl ⟨e, hy⟩), h⟩
  | false =>
    refine ⟨fun x h => ?_, p, mem_add.2 (.inr ⟨e, .inl rfl⟩), prefS_refl p⟩
    cases e2 : prefS p x with
    | true => exact ⟨p, mem_add.2 (.inr ⟨e, .inl rfl⟩), e2⟩
    | false => exact ⟨x, mem_add.2 (.inr ⟨e, .inr ⟨h, e2⟩⟩), prefS_refl x⟩
/-- What covers both covers what is added. -/
theorem add_cov {l L : List MPath} {p : MPath} (h : Cov l L) (hp : ∃ y ∈ L, prefS y p = true) : Cov (addS l p) L := fun x hx => by
  rcases mem_add_or hx with h1 | rfl
  · exact h x h1
  · exact hp
theorem add_mono {l L : List MPath} {p : MPath} (h : Cov l L) : Cov (addS l p) (addS L p) := add_cov (h.trans (cov_add L p).1) (cov_add L p).2
theorem put_sub {l : List MPath} {p x : MPath} (h : x ∈ putS l p) : x ∈ l := by
  unfold putS at h
  split at h
  · exact h
  · exact (List.mem_filter.1 h).1
theorem put_mono {l L : List MPath} {p : MPath} (h : Cov l L) : Cov (putS l p) (putS L p) := by
  intro x hx
  obtain ⟨y, hy, e⟩ := h x (put_sub hx)
  unfold putS at hx ⊢
  by_cases hL : (starS p || L.any fun x => prefS x p && !prefS p x) = true
  · rw [if_pos hL]; exact ⟨y, hy, e⟩
  rw [if_neg hL]
  have hl : ¬ (starS p || l.any fun x => prefS x p && !prefS p x) = true := by
    intro hl
    simp only [Bool.or_eq_true, List.any_eq_true, not_or, not_exists, not_and] at hl hL
    rcases hl with h1 | ⟨z, hz, h2⟩
    · exact hL.1 h1
    · simp only [Bool.and_eq_true, Bool.not_eq_true'] at h2 hL
      obtain ⟨w, hw, e2⟩ := h z hz
      refine hL.2 w hw ⟨prefS_trans e2 h2.1, ?_⟩
      cases e3 : prefS p w with
      | false => rfl
      | true => rw [prefS_trans e3 e2] at h2; cases h2.2
  rw [if_neg hl] at hx
  obtain ⟨_, hx2⟩ := List.mem_filter.1 hx
  refine ⟨y, List.mem_filter.2 ⟨hy, ?_⟩, e⟩
  cases e3 : prefS p y with
  | false => rfl
  | true => rw [prefS_trans e3 e] at hx2; cases hx2
end Go.Lg

namespace Go.Proofs.YtlkdcgfjmhjjpaaGreat
open Go Go.Lg
set_option maxRecDepth 100000

def lcg10 : LC := .seq (.rego 0 [⟨some 4, .mov (.con (.bool false)), none⟩]) (.keep [0, 1] (.seq (.seq (.rego 1 [⟨some 6, .mov (.tmp 0), none⟩, ⟨some 7, .len false (.tmp 6), none⟩, ⟨some 8, .mov (.tmp 1), none⟩, ⟨some 9, .len false (.tmp 8), none⟩, ⟨some 10, .bin .neq (.tmp 7) (.tmp 9), none⟩]) (.keep [0, 1, 10] (.cond (.tmp 10) (.keep [] (.seq (.rego 2 [⟨some 4, .mov (.con (.bool false)), none⟩]) .ret)) .skip))) (.keep [0, 1] (.seq (.seq (.rego 3 [⟨some 5, .mov (.con (.int .i64 0)), none⟩]) (.keep [0, 1, 5] (.block 0 (.loop (.seq (.seq (.rego 4 [⟨some 11, .mov (.tmp 5), none⟩, ⟨some 12, .mov (.tmp 0), none⟩, ⟨some 13, .len false (.tmp 12), none⟩, ⟨some 14, .bin .lss (.tmp 11) (.tmp 13), none⟩]) (.keep [0, 1, 5, 14] (.cond (.tmp 14) .skip (.exit 0)))) (.keep [0, 1, 5] (.seq (.block 1 (.seq (.regf 6 [0, 0, 3, 7, 0, 0, 48, 112, 255, 511] [⟨some 17, .mov (.tmp 0), none⟩, ⟨some 18, .mov (.tmp 5), none⟩, ⟨some 19, .iaS 2 (.tmp 17) (.tmp 18), none⟩, ⟨some 20, .load true 2 (.tmp 19), none⟩, ⟨some 21, .mov (.tmp 1), none⟩, ⟨some 22, .mov (.tmp 5), none⟩, ⟨some 23, .iaS 2 (.tmp 21) (.tmp 22), none⟩, ⟨some 24, .load true 2 (.tmp 23), none⟩, ⟨some 25, .call 27 [.tmp 20, .tmp 24], none⟩, ⟨some 26, .un .not (.tmp 25), none⟩]) (.keep [0, 1, 5, 26] (.cond (.tmp 26) (.keep [] (.seq (.rego 7 [⟨some 4, .mov (.con (.bool false)), none⟩]) .ret)) .skip)))) (.keep [0, 1, 5] (.rego 5 [⟨some 15, .mov (.tmp 5), none⟩, ⟨some 16, .bin .add (.tmp 15) (.con (.int .i64 1)), none⟩, ⟨some 5, .mov (.tmp 16), none⟩]))))))))) (.keep [] (.seq (.rego 8 [⟨some 4, .mov (.con (.bool true)), none⟩]) .ret))))))
theorem fdg10 : fnData Tryz.prog 10 = some (27, lcg10.erase, [LRV.tmp 4]) := by kernel_rfl

def lcg11 : LC := .seq (.rego 0 [⟨some 3, .box (.tmp 1), none⟩, ⟨some 4, .mov (.con .e0), none⟩]) (.keep [0, 3] (.seq (.seq (.rego 1 [⟨some 5, .mov (.tmp 0), none⟩, ⟨some 6, .mkfn 29 [.tmp 3], none⟩, ⟨some 7, .call 28 [.tmp 5, .tmp 6], none⟩]) (.keep [0, 3, 7] (.cond (.tmp 7) (.keep [0] (.seq (.rego 2 [⟨some 8, .mov (.tmp 0), none⟩, ⟨some 9, .call 31 [.tmp 8], none⟩, ⟨some 4, .mov (.tmp 9), none⟩]) .ret)) .skip))) (.keep [0, 3] (.seq (.regv (.alt 0 (.alt 1 (.alt 2 (.alt 3 (.alt 4 (.alt 5 (.alt 6 (.alt 7 (.alt 8 .leaf .none) .none) .none) .none) .none) .none) (.alt 3 (.alt 2 (.alt 4 (.alt 5 (.alt 6 (.alt 7 (.alt 8 .leaf .none) .none) .none) .none) .none) .none) .none)) (.alt 3 (.alt 1 (.alt 2 (.alt 4 (.alt 5 (.alt 6 (.alt 7 (.alt 8 .leaf .none) .none) .none) .none) .none) .none) .none) .none)) (.alt 1 (.alt 0 (.alt 2 (.alt 3 (.alt 4 (.alt 5 (.alt 6 (.alt 7 (.alt 8 .leaf .none) .none) .none) .none) .none) .none) (.alt 3 (.alt 2 (.alt 4 (.alt 5 (.alt 6 (.alt 7 (.alt 8 .leaf .none) .none) .none) .none) .none) .none) .none)) (.alt 3 (.alt 0 (.alt 2 (.alt 4 (.alt 5 (.alt 6 (.alt 7 (.alt 8 .leaf .none) .none) .none) .none) .none) .none) .none) .none)) (.alt 3 (.alt 0 (.alt 1 (.alt 2 (.alt 4 (.alt 5 (.alt 6 (.alt 7 (.alt 8 .leaf .none) .none) .none) .none) .none) .none) .none) (.alt 1 (.alt 0 (.alt 2 (.alt 4 (.alt 5 (.alt 6 (.alt 7 (.alt 8 .leaf .none) .none) .none) .none) .none) .none) .none) .none)) .none))) 3 [0, 0, 3, 0, 15, 31, 63, 127, 255] [⟨some 10, .mov (.tmp 0), none⟩, ⟨some 11, .load true 2 (.tmp 3), none⟩, ⟨some 12, .call 33 [.tmp 10, .tmp 11], none⟩, ⟨some 13, .load true 2 (.tmp 3), none⟩, ⟨some 14, .call 34 [.tmp 13], none⟩, ⟨some 15, .bsl 1 [.int .i64 0, .e0] [⟨0, 2, .tmp 14⟩], none⟩, ⟨some 16, .app 2 32 (.tmp 12) (.tmp 15), none⟩, ⟨some 17, .call 32 [.tmp 16], none⟩, ⟨some 4, .mov (.tmp 17), none⟩]) .ret))))
theorem fdg11 : fnData Tryz.prog 11 = some (18, lcg11.erase, [LRV.tmp 4]) := by kernel_rfl

def lcg12 : LC := .seq (.rego 0 [⟨some 3, .box (.tmp 1), none⟩, ⟨some 4, .mov (.con .e0), none⟩]) (.keep [0, 3] (.seq (.rego 1 [⟨some 5, .mov (.con .e0), none⟩]) (.keep [0, 3, 5] (.seq (.rego 2 [⟨some 6, .mov (.con (.bool false)), none⟩]) (.keep [0, 3, 5, 6] (.seq (.seq (.rego 3 [⟨some 7, .mov (.con (.int .i64 0)), none⟩]) (.keep [0, 3, 5, 6, 7] (.block 0 (.loop (.seq (.seq (.rego 4 [⟨some 8, .mov (.tmp 7), none⟩, ⟨some 9, .mov (.tmp 0), none⟩, ⟨some 10, .len false (.tmp 9), none⟩, ⟨some 11, .bin .lss (.tmp 8) (.tmp 10), none⟩]) (.keep [0, 3, 5, 6, 7, 11] (.cond (.tmp 11) .skip (.exit 0)))) (.keep [0, 3, 5, 6, 7] (.seq (.block 1 (.seq (.seq (.regf 6 [0, 0, 3, 7, 0, 31] [⟨some 14, .mov (.tmp 0), none⟩, ⟨some 15, .mov (.tmp 7), none⟩, ⟨some 16, .iaS 2 (.tmp 14) (.tmp 15), none⟩, ⟨some 17, .load true 2 (.tmp 16), none⟩, ⟨some 18, .load true 2 (.tmp 3), none⟩, ⟨some 19, .call 17 [.tmp 17, .tmp 18], none⟩]) (.keep [0, 3, 5, 6, 7, 19] (.cond (.tmp 19) (.keep [0] (.seq (.rego 7 [⟨some 20, .mov (.tmp 0), none⟩, ⟨some 4, .mov (.tmp 20), none⟩]) .ret)) .skip))) (.keep [0, 3, 5, 6, 7] (.seq (.seq (.regf 8 [0, 0, 0, 6, 14, 31] [⟨some 21, .load true 2 (.tmp 3), none⟩, ⟨some 22, .mov (.tmp 0), none⟩, ⟨some 23, .mov (.tmp 7), none⟩, ⟨some 24, .iaS 2 (.tmp 22) (.tmp 23), none⟩, ⟨some 25, .load true 2 (.tmp 24), none⟩, ⟨some 26, .call 17 [.tmp 21, .tmp 25], none⟩]) (.keep [0, 3, 5, 6, 7, 26] (.cond (.tmp 26) (.exit 1) .skip))) (.keep [0, 3, 5, 6, 7] (.seq (.seq (.regf 9 [0, 1, 3, 7, 7, 7, 55, 119, 255, 511] [⟨some 27, .mov (.tmp 6), none⟩, ⟨some 28, .un .not (.tmp 27), none⟩, ⟨some 29, .mov (.tmp 28), none⟩, ⟨some 30, .load true 2 (.tmp 3), some ⟨29, true⟩⟩, ⟨some 31, .mov (.tmp 0), some ⟨29, true⟩⟩, ⟨some 32, .mov (.tmp 7), some ⟨29, true⟩⟩, ⟨some 33, .iaS 2 (.tmp 31) (.tmp 32), some ⟨29, true⟩⟩, ⟨some 34, .load true 2 (.tmp 33), some ⟨29, true⟩⟩, ⟨some 35, .call 18 [.tmp 30, .tmp 34], some ⟨29, true⟩⟩, ⟨some 36, .pick (.tmp 29) (.tmp 35) (.con (.bool false)), none⟩]) (.keep [0, 3, 5, 6, 7, 36] (.cond (.tmp 36) (.keep [0, 3, 5, 7] (.seq (.rego 10 [⟨some 37, .mov (.tmp 5), none⟩, ⟨some 38, .load true 2 (.tmp 3), none⟩, ⟨some 39, .bsl 1 [.int .i64 0, .e0] [⟨0, 2, .tmp 38⟩], none⟩, ⟨some 40, .app 2 32 (.tmp 37) (.tmp 39), none⟩, ⟨some 5, .mov (.tmp 40), none⟩]) (.keep [0, 3, 5, 7] (.rego 11 [⟨some 6, .mov (.con (.bool true)), none⟩])))) .skip))) (.keep [0, 3, 5, 6, 7] (.rego 12 [⟨some 41, .mov (.tmp 5), none⟩, ⟨some 42, .mov (.tmp 0), none⟩, ⟨some 43, .mov (.tmp 7), none⟩, ⟨some 44, .iaS 2 (.tmp 42) (.tmp 43), none⟩, ⟨some 45, .load true 2 (.tmp 44), none⟩, ⟨some 46, .bsl 1 [.int .i64 0, .e0] [⟨0, 2, .tmp 45⟩], none⟩, ⟨some 47, .app 2 32 (.tmp 41) (.tmp 46), none⟩, ⟨some 5, .mov (.tmp 47), none⟩])))))))) (.keep [0, 3, 5, 6, 7] (.rego 5 [⟨some 12, .mov (.tmp 7), none⟩, ⟨some 13, .bin .add (.tmp 12) (.con (.int .i64 1)), none⟩, ⟨some 7, .mov (.tmp 13), none⟩]))))))))) (.keep [3, 5, 6] (.seq (.seq (.rego 13 [⟨some 48, .mov (.tmp 6), none⟩, ⟨some 49, .un .not (.tmp 48), none⟩]) (.keep [3, 5, 49] (.cond (.tmp 49) (.keep [3, 5] (.rego 14 [⟨some 50, .mov (.tmp 5), none⟩, ⟨some 51, .load true 2 (.tmp 3), none⟩, ⟨some 52, .bsl 1 [.int .i64 0, .e0] [⟨0, 2, .tmp 51⟩], none⟩, ⟨some 53, .app 2 32 (.tmp 50) (.tmp 52), none⟩, ⟨some 5, .mov (.tmp 53), none⟩])) .skip))) (.keep [5] (.seq (.rego 15 [⟨some 54, .mov (.tmp 5), none⟩, ⟨some 4, .mov (.tmp 54), none⟩]) .ret))))))))))
theorem fdg12 : fnData Tryz.prog 12 = some (55, lcg12.erase, [LRV.tmp 4]) := by kernel_rfl

def lcg13 : LC := .seq (.rego 0 [⟨some 3, .box (.tmp 1), none⟩, ⟨some 4, .mov (.con .e0), none⟩]) (.keep [0, 3] (.seq (.seq (.rego 1 [⟨some 5, .fad 1 (.tmp 3), none⟩, ⟨some 6, .load false 1 (.tmp 5), none⟩, ⟨some 7, .call 35 [.tmp 6, .con (.str { data := #[42] })], none⟩, ⟨some 8, .mov (.tmp 7), none⟩, ⟨some 9, .mov (.tmp 0), some ⟨8, false⟩⟩, ⟨some 10, .mkfn 36 [.tmp 3], some ⟨8, false⟩⟩, ⟨some 11, .call 28 [.tmp 9, .tmp 10], some ⟨8, false⟩⟩, ⟨some 12, .pick (.tmp 8) (.con (.bool true)) (.tmp 11), none⟩]) (.keep [0, 3, 12] (.cond (.tmp 12) (.keep [0] (.seq (.rego 2 [⟨some 13, .mov (.tmp 0), none⟩, ⟨some 14, .call 31 [.tmp 13], none⟩, ⟨some 4, .mov (.tmp 14), none⟩]) .ret)) .skip))) (.keep [0, 3] (.seq (.rego 3 [⟨some 15, .mov (.tmp 0), none⟩, ⟨some 16, .load true 2 (.tmp 3), none⟩, ⟨some 17, .call 33 [.tmp 15, .tmp 16], none⟩, ⟨some 4, .mov (.tmp 17), none⟩]) .ret))))
theorem fdg13 : fnData Tryz.prog 13 = some (18, lcg13.erase, [LRV.tmp 4]) := by kernel_rfl

def lcg14 : LC := .seq (.rego 0 [⟨some 3, .box (.tmp 1), none⟩, ⟨some 4, .mov (.con .e0), none⟩]) (.keep [0, 3] (.seq (.seq (.rego 1 [⟨some 7, .load true 2 (.tmp 3), none⟩, ⟨some 8, .call 38 [.tmp 7], none⟩, ⟨some 9, .mov (.tmp 8), none⟩, ⟨some 10, .mov (.tmp 0), some ⟨9, false⟩⟩, ⟨some 11, .load true 2 (.tmp 3), some ⟨9, false⟩⟩, ⟨some 12, .call 39 [.tmp 10, .tmp 11], some ⟨9, false⟩⟩, ⟨some 13, .pick (.tmp 9) (.con (.bool true)) (.tmp 12), none⟩]) (.keep [0, 3, 13] (.cond (.tmp 13) (.keep [0] (.seq (.rego 2 [⟨some 14, .mov (.tmp 0), none⟩, ⟨some 4, .mov (.tmp 14), none⟩]) .ret)) .skip))) (.keep [0, 3] (.seq (.rego 3 [⟨some 5, .mov (.con .e0), none⟩]) (.keep [0, 3, 5] (.seq (.seq (.rego 4 [⟨some 6, .mov (.con (.int .i64 0)), none⟩]) (.keep [0, 3, 5, 6] (.block 0 (.loop (.seq (.seq (.rego 5 [⟨some 15, .mov (.tmp 6), none⟩, ⟨some 16, .mov (.tmp 0), none⟩, ⟨some 17, .len false (.tmp 16), none⟩, ⟨some 18, .bin .lss (.tmp 15) (.tmp 17), none⟩]) (.keep [0, 3, 5, 6, 18] (.cond (.tmp 18) .skip (.exit 0)))) (.keep [0, 3, 5, 6] (.seq (.block 1 (.seq (.regf 7 [0, 0, 0, 6, 14, 31, 63] [⟨some 21, .load true 2 (.tmp 3), none⟩, ⟨some 22, .mov (.tmp 0), none⟩, ⟨some 23, .mov (.tmp 6), none⟩, ⟨some 24, .iaS 2 (.tmp 22) (.tmp 23), none⟩, ⟨some 25, .load true 2 (.tmp 24), none⟩, ⟨some 26, .call 17 [.tmp 21, .tmp 25], none⟩, ⟨some 27, .un .not (.tmp 26), none⟩]) (.keep [0, 3, 5, 6, 27] (.cond (.tmp 27) (.keep [0, 3, 5, 6] (.rego 8 [⟨some 28, .mov (.tmp 5), none⟩, ⟨some 29, .mov (.tmp 0), none⟩, ⟨some 30, .mov (.tmp 6), none⟩, ⟨some 31, .iaS 2 (.tmp 29) (.tmp 30), none⟩, ⟨some 32, .load true 2 (.tmp 31), none⟩, ⟨some 33, .bsl 1 [.int .i64 0, .e0] [⟨0, 2, .tmp 32⟩], none⟩, ⟨some 34, .app 2 32 (.tmp 28) (.tmp 33), none⟩, ⟨some 5, .mov (.tmp 34), none⟩])) .skip)))) (.keep [0, 3, 5, 6] (.rego 6 [⟨some 19, .mov (.tmp 6), none⟩, ⟨some 20, .bin .add (.tmp 19) (.con (.int .i64 1)), none⟩, ⟨some 6, .mov (.tmp 20), none⟩]))))))))) (.keep [5] (.seq (.rego 9 [⟨some 35, .mov (.tmp 5), none⟩, ⟨some 4, .mov (.tmp 35), none⟩]) .ret))))))))
theorem fdg14 : fnData Tryz.prog 14 = some (36, lcg14.erase, [LRV.tmp 4]) := by kernel_rfl

def lcg15 : LC := .seq (.rego 0 [⟨some 3, .box (.tmp 1), none⟩, ⟨some 4, .mov (.con .e0), none⟩]) (.keep [0, 3] (.seq (.seq (.rego 1 [⟨some 5, .fad 0 (.tmp 3), none⟩, ⟨some 6, .load false 1 (.tmp 5), none⟩]) (.keep [0, 3, 6] (.block 0 (.seq (.rego 2 [⟨some 8, .bin .eql (.tmp 6) (.con (.int .i64 1)), none⟩, ⟨some 7, .mov (.tmp 8), none⟩]) (.keep [0, 3, 6, 7] (.cond (.tmp 7) (.keep [0, 3] (.seq (.rego 3 [⟨some 9, .mov (.tmp 0), none⟩, ⟨some 10, .fad 5 (.tmp 3), none⟩, ⟨some 11, .load true 16 (.tmp 10), none⟩, ⟨some 12, .call 40 [.tmp 9, .tmp 11, .con .nilf], none⟩, ⟨some 0, .mov (.tmp 12), none⟩]) (.keep [0, 3] (.seq (.rego 4 [⟨some 13, .fad 2 (.tmp 3), none⟩, ⟨some 14, .load false 1 (.tmp 13), none⟩]) (.keep [0, 3, 14] (.cond (.tmp 14) (.keep [0, 3] (.seq (.rego 5 [⟨some 15, .mov (.tmp 0), none⟩, ⟨some 16, .fad 3 (.tmp 3), none⟩, ⟨some 17, .load true 2 (.tmp 16), none⟩, ⟨some 18, .call 13 [.tmp 15, .tmp 17], none⟩, ⟨some 4, .mov (.tmp 18), none⟩]) .ret)) .skip)))))) (.keep [0, 3, 6] (.seq (.rego 6 [⟨some 20, .bin .eql (.tmp 6) (.con (.int .i64 3)), none⟩, ⟨some 19, .mov (.tmp 20), none⟩]) (.keep [0, 3, 6, 19] (.cond (.tmp 19) (.keep [0, 3] (.seq (.rego 7 [⟨some 21, .mov (.tmp 0), none⟩, ⟨some 22, .fad 3 (.tmp 3), none⟩, ⟨some 23, .load true 2 (.tmp 22), none⟩, ⟨some 24, .call 11 [.tmp 21, .tmp 23], none⟩, ⟨some 4, .mov (.tmp 24), none⟩]) .ret)) (.keep [0, 3, 6] (.seq (.rego 8 [⟨some 26, .bin .eql (.tmp 6) (.con (.int .i64 2)), none⟩, ⟨some 25, .mov (.tmp 26), none⟩]) (.keep [0, 3, 25] (.cond (.tmp 25) (.keep [0, 3] (.seq (.rego 9 [⟨some 27, .mov (.tmp 0), none⟩, ⟨some 28, .fad 3 (.tmp 3), none⟩, ⟨some 29, .fad 0 (.tmp 28), none⟩, ⟨some 30, .load false 1 (.tmp 29), none⟩, ⟨some 31, .build [.int .i64 0, .e0] [⟨0, 1, .tmp 30⟩], none⟩, ⟨some 32, .call 11 [.tmp 27, .tmp 31], none⟩, ⟨some 4, .mov (.tmp 32), none⟩]) .ret)) .skip)))))))))))))) (.keep [0] (.seq (.rego 10 [⟨some 33, .mov (.tmp 0), none⟩, ⟨some 34, .call 31 [.tmp 33], none⟩, ⟨some 4, .mov (.tmp 34), none⟩]) .ret))))
theorem fdg15 : fnData Tryz.prog 15 = some (35, lcg15.erase, [LRV.tmp 4]) := by kernel_rfl

def lcg16 : LC := .seq (.rego 0 [⟨some 3, .box (.tmp 1), none⟩, ⟨some 4, .mov (.con .e0), none⟩]) (.keep [0, 3] (.seq (.seq (.rego 1 [⟨some 7, .fad 0 (.tmp 3), none⟩, ⟨some 8, .load false 1 (.tmp 7), none⟩]) (.keep [0, 3, 8] (.block 0 (.seq (.rego 2 [⟨some 10, .bin .eql (.tmp 8) (.con (.int .i64 1)), none⟩, ⟨some 9, .mov (.tmp 10), none⟩]) (.keep [0, 3, 8, 9] (.cond (.tmp 9) (.keep [0, 3] (.seq (.rego 3 [⟨some 11, .fad 5 (.tmp 3), none⟩, ⟨some 12, .load true 16 (.tmp 11), none⟩, ⟨some 13, .call 24 [.tmp 12], none⟩, ⟨some 5, .mov (.tmp 13), none⟩]) (.keep [0, 3, 5] (.seq (.seq (.rego 4 [⟨some 6, .mov (.con (.int .i64 0)), none⟩]) (.keep [0, 3, 5, 6] (.block 1 (.loop (.seq (.seq (.rego 5 [⟨some 14, .mov (.tmp 6), none⟩, ⟨some 15, .mov (.tmp 5), none⟩, ⟨some 16, .len false (.tmp 15), none⟩, ⟨some 17, .bin .lss (.tmp 14) (.tmp 16), none⟩]) (.keep [0, 3, 5, 6, 17] (.cond (.tmp 17) .skip (.exit 1)))) (.keep [0, 3, 5, 6] (.seq (.block 2 (.seq (.rego 7 [⟨some 20, .mov (.tmp 5), none⟩, ⟨some 21, .mov (.tmp 6), none⟩, ⟨some 22, .iaS 4 (.tmp 20) (.tmp 21), none⟩, ⟨some 23, .fad 0 (.tmp 22), none⟩, ⟨some 24, .load false 1 (.tmp 23), none⟩, ⟨some 25, .bin .eql (.tmp 24) (.con (.int .i64 4)), none⟩]) (.keep [0, 3, 5, 6, 25] (.cond (.tmp 25) (.keep [0, 3, 5, 6] (.rego 8 [⟨some 26, .mov (.tmp 0), none⟩, ⟨some 27, .mov (.tmp 5), none⟩, ⟨some 28, .mov (.tmp 6), none⟩, ⟨some 29, .iaS 4 (.tmp 27) (.tmp 28), none⟩, ⟨some 30, .fad 2 (.tmp 29), none⟩, ⟨some 31, .load true 2 (.tmp 30), none⟩, ⟨some 32, .call 12 [.tmp 26, .tmp 31], none⟩, ⟨some 0, .mov (.tmp 32), none⟩])) .skip)))) (.keep [0, 3, 5, 6] (.rego 6 [⟨some 18, .mov (.tmp 6), none⟩, ⟨some 19, .bin .add (.tmp 18) (.con (.int .i64 1)), none⟩, ⟨some 6, .mov (.tmp 19), none⟩]))))))))) (.keep [0, 3] (.seq (.rego 9 [⟨some 33, .fad 2 (.tmp 3), none⟩, ⟨some 34, .load false 1 (.tmp 33), none⟩]) (.keep [0, 3, 34] (.cond (.tmp 34) (.keep [0, 3] (.rego 10 [⟨some 35, .mov (.tmp 0), none⟩, ⟨some 36, .fad 3 (.tmp 3), none⟩, ⟨some 37, .load true 2 (.tmp 36), none⟩, ⟨some 38, .call 14 [.tmp 35, .tmp 37], none⟩, ⟨some 0, .mov (.tmp 38), none⟩])) .skip)))))))) (.keep [0, 3, 8] (.seq (.rego 11 [⟨some 40, .bin .eql (.tmp 8) (.con (.int .i64 3)), none⟩, ⟨some 39, .mov (.tmp 40), none⟩]) (.keep [0, 3, 8, 39] (.cond (.tmp 39) (.keep [0, 3] (.rego 12 [⟨some 41, .mov (.tmp 0), none⟩, ⟨some 42, .fad 3 (.tmp 3), none⟩, ⟨some 43, .load true 2 (.tmp 42), none⟩, ⟨some 44, .call 12 [.tmp 41, .tmp 43], none⟩, ⟨some 0, .mov (.tmp 44), none⟩])) (.keep [0, 3, 8] (.seq (.rego 13 [⟨some 46, .bin .eql (.tmp 8) (.con (.int .i64 2)), none⟩, ⟨some 45, .mov (.tmp 46), none⟩]) (.keep [0, 3, 45] (.cond (.tmp 45) (.keep [0, 3] (.rego 14 [⟨some 47, .mov (.tmp 0), none⟩, ⟨some 48, .fad 3 (.tmp 3), none⟩, ⟨some 49, .fad 0 (.tmp 48), none⟩, ⟨some 50, .load false 1 (.tmp 49), none⟩, ⟨some 51, .build [.int .i64 0, .e0] [⟨0, 1, .tmp 50⟩], none⟩, ⟨some 52, .call 12 [.tmp 47, .tmp 51], none⟩, ⟨some 0, .mov (.tmp 52), none⟩])) .skip)))))))))))))) (.keep [0] (.seq (.rego 15 [⟨some 53, .mov (.tmp 0), none⟩, ⟨some 4, .mov (.tmp 53), none⟩]) .ret))))
theorem fdg16 : fnData Tryz.prog 16 = some (54, lcg16.erase, [LRV.tmp 4]) := by kernel_rfl

def lcg17 : LC := .seq (.rego 0 [⟨some 2, .box (.tmp 0), none⟩, ⟨some 3, .box (.tmp 1), none⟩, ⟨some 4, .mov (.con (.bool false)), none⟩]) (.keep [2, 3] (.seq (.seq (.rego 1 [⟨some 6, .fad 0 (.tmp 2), none⟩, ⟨some 7, .load false 1 (.tmp 6), none⟩, ⟨some 8, .fad 0 (.tmp 3), none⟩, ⟨some 9, .load false 1 (.tmp 8), none⟩, ⟨some 10, .bin .neq (.tmp 7) (.tmp 9), none⟩, ⟨some 11, .mov (.tmp 10), none⟩, ⟨some 12, .fad 1 (.tmp 2), some ⟨11, false⟩⟩, ⟨some 13, .load false 1 (.tmp 12), some ⟨11, false⟩⟩, ⟨some 14, .len false (.tmp 13), some ⟨11, false⟩⟩, ⟨some 15, .fad 1 (.tmp 3), some ⟨11, false⟩⟩, ⟨some 16, .load false 1 (.tmp 15), some ⟨11, false⟩⟩, ⟨some 17, .len false (.tmp 16), some ⟨11, false⟩⟩, ⟨some 18, .bin .gtr (.tmp 14) (.tmp 17), some ⟨11, false⟩⟩, ⟨some 19, .pick (.tmp 11) (.con (.bool true)) (.tmp 18), none⟩]) (.keep [2, 3, 19] (.cond (.tmp 19) (.keep [] (.seq (.rego 2 [⟨some 4, .mov (.con (.bool false)), none⟩]) .ret)) .skip))) (.keep [2, 3] (.seq (.seq (.rego 3 [⟨some 5, .mov (.con (.int .i64 0)), none⟩]) (.keep [2, 3, 5] (.block 0 (.loop (.seq (.seq (.rego 4 [⟨some 20, .mov (.tmp 5), none⟩, ⟨some 21, .fad 1 (.tmp 2), none⟩, ⟨some 22, .load false 1 (.tmp 21), none⟩, ⟨some 23, .len false (.tmp 22), none⟩, ⟨some 24, .bin .lss (.tmp 20) (.tmp 23), none⟩]) (.keep [2, 3, 5, 24] (.cond (.tmp 24) .skip (.exit 0)))) (.keep [2, 3, 5] (.seq (.block 1 (.seq (.reg 6 [⟨some 27, .fad 1 (.tmp 2), none⟩, ⟨some 28, .load false 1 (.tmp 27), none⟩, ⟨some 29, .mov (.tmp 5), none⟩, ⟨some 30, .iaS 1 (.tmp 28) (.tmp 29), none⟩, ⟨some 31, .load false 1 (.tmp 30), none⟩, ⟨some 32, .fad 1 (.tmp 3), none⟩, ⟨some 33, .load false 1 (.tmp 32), none⟩, ⟨some 34, .mov (.tmp 5), none⟩, ⟨some 35, .iaS 1 (.tmp 33) (.tmp 34), none⟩, ⟨some 36, .load false 1 (.tmp 35), none⟩, ⟨some 37, .bin .neq (.tmp 31) (.tmp 36), none⟩]) (.keep [2, 3, 5, 37] (.cond (.tmp 37) (.keep [] (.seq (.rego 7 [⟨some 4, .mov (.con (.bool false)), none⟩]) .ret)) .skip)))) (.keep [2, 3, 5] (.rego 5 [⟨some 25, .mov (.tmp 5), none⟩, ⟨some 26, .bin .add (.tmp 25) (.con (.int .i64 1)), none⟩, ⟨some 5, .mov (.tmp 26), none⟩]))))))))) (.keep [] (.seq (.rego 8 [⟨some 4, .mov (.con (.bool true)), none⟩]) .ret))))))
theorem fdg17 : fnData Tryz.prog 17 = some (38, lcg17.erase, [LRV.tmp 4]) := by kernel_rfl

def lcg18 : LC := .seq (.rego 0 [⟨some 2, .box (.tmp 0), none⟩, ⟨some 3, .box (.tmp 1), none⟩, ⟨some 4, .mov (.con (.bool false)), none⟩]) (.keep [2, 3] (.seq (.seq (.rego 1 [⟨some 6, .fad 0 (.tmp 2), none⟩, ⟨some 7, .load false 1 (.tmp 6), none⟩, ⟨some 8, .fad 0 (.tmp 3), none⟩, ⟨some 9, .load false 1 (.tmp 8), none⟩, ⟨some 10, .bin .neq (.tmp 7) (.tmp 9), none⟩]) (.keep [2, 3, 10] (.cond (.tmp 10) (.keep [2, 3] (.seq (.rego 2 [⟨some 11, .fad 0 (.tmp 2), none⟩, ⟨some 12, .load false 1 (.tmp 11), none⟩, ⟨some 13, .fad 0 (.tmp 3), none⟩, ⟨some 14, .load false 1 (.tmp 13), none⟩, ⟨some 15, .bin .lss (.tmp 12) (.tmp 14), none⟩, ⟨some 4, .mov (.tmp 15), none⟩]) .ret)) .skip))) (.keep [2, 3] (.seq (.seq (.rego 3 [⟨some 5, .mov (.con (.int .i64 0)), none⟩]) (.keep [2, 3, 5] (.block 0 (.loop (.seq (.seq (.rego 4 [⟨some 16, .mov (.tmp 5), none⟩, ⟨some 17, .fad 1 (.tmp 2), none⟩, ⟨some 18, .load false 1 (.tmp 17), none⟩, ⟨some 19, .len false (.tmp 18), none⟩, ⟨some 20, .bin .lss (.tmp 16) (.tmp 19), none⟩, ⟨some 21, .mov (.tmp 20), none⟩, ⟨some 22, .mov (.tmp 5), some ⟨21, true⟩⟩, ⟨some 23, .fad 1 (.tmp 3), some ⟨21, true⟩⟩, ⟨some 24, .load false 1 (.tmp 23), some ⟨21, true⟩⟩, ⟨some 25, .len false (.tmp 24), some ⟨21, true⟩⟩, ⟨some 26, .bin .lss (.tmp 22) (.tmp 25), some ⟨21, true⟩⟩, ⟨some 27, .pick (.tmp 21) (.tmp 26) (.con (.bool false)), none⟩]) (.keep [2, 3, 5, 27] (.cond (.tmp 27) .skip (.exit 0)))) (.keep [2, 3, 5] (.seq (.block 1 (.seq (.reg 6 [⟨some 30, .fad 1 (.tmp 2), none⟩, ⟨some 31, .load false 1 (.tmp 30), none⟩, ⟨some 32, .mov (.tmp 5), none⟩, ⟨some 33, .iaS 1 (.tmp 31) (.tmp 32), none⟩, ⟨some 34, .load false 1 (.tmp 33), none⟩, ⟨some 35, .fad 1 (.tmp 3), none⟩, ⟨some 36, .load false 1 (.tmp 35), none⟩, ⟨some 37, .mov (.tmp 5), none⟩, ⟨some 38, .iaS 1 (.tmp 36) (.tmp 37), none⟩, ⟨some 39, .load false 1 (.tmp 38), none⟩, ⟨some 40, .bin .neq (.tmp 34) (.tmp 39), none⟩]) (.keep [2, 3, 5, 40] (.cond (.tmp 40) (.keep [2, 3, 5] (.seq (.reg 7 [⟨some 41, .fad 1 (.tmp 2), none⟩, ⟨some 42, .load false 1 (.tmp 41), none⟩, ⟨some 43, .mov (.tmp 5), none⟩, ⟨some 44, .iaS 1 (.tmp 42) (.tmp 43), none⟩, ⟨some 45, .load false 1 (.tmp 44), none⟩, ⟨some 46, .fad 1 (.tmp 3), none⟩, ⟨some 47, .load false 1 (.tmp 46), none⟩, ⟨some 48, .mov (.tmp 5), none⟩, ⟨some 49, .iaS 1 (.tmp 47) (.tmp 48), none⟩, ⟨some 50, .load false 1 (.tmp 49), none⟩, ⟨some 51, .bin .lss (.tmp 45) (.tmp 50), none⟩, ⟨some 4, .mov (.tmp 51), none⟩]) .ret)) .skip)))) (.keep [2, 3, 5] (.rego 5 [⟨some 28, .mov (.tmp 5), none⟩, ⟨some 29, .bin .add (.tmp 28) (.con (.int .i64 1)), none⟩, ⟨some 5, .mov (.tmp 29), none⟩]))))))))) (.keep [2, 3] (.seq (.rego 8 [⟨some 52, .fad 1 (.tmp 2), none⟩, ⟨some 53, .load false 1 (.tmp 52), none⟩, ⟨some 54, .len false (.tmp 53), none⟩, ⟨some 55, .fad 1 (.tmp 3), none⟩, ⟨some 56, .load false 1 (.tmp 55), none⟩, ⟨some 57, .len false (.tmp 56), none⟩, ⟨some 58, .bin .lss (.tmp 54) (.tmp 57), none⟩, ⟨some 4, .mov (.tmp 58), none⟩]) .ret))))))
theorem fdg18 : fnData Tryz.prog 18 = some (59, lcg18.erase, [LRV.tmp 4]) := by kernel_rfl

def lcg19 : LC := .seq (.rego 0 [⟨some 1, .box (.tmp 0), none⟩, ⟨some 2, .new [.int .i64 0, .e0], none⟩]) (.keep [1, 2] (.seq (.seq (.rego 1 [⟨some 3, .mov (.con (.int .i64 0)), none⟩]) (.keep [1, 2, 3] (.block 0 (.loop (.seq (.seq (.rego 2 [⟨some 4, .mov (.tmp 3), none⟩, ⟨some 5, .fad 1 (.tmp 1), none⟩, ⟨some 6, .load false 1 (.tmp 5), none⟩, ⟨some 7, .len false (.tmp 6), none⟩, ⟨some 8, .bin .lss (.tmp 4) (.tmp 7), none⟩]) (.keep [1, 2, 3, 8] (.cond (.tmp 8) .skip (.exit 0)))) (.keep [1, 2, 3] (.seq (.block 1 (.seq (.rego 4 [⟨some 11, .fad 1 (.tmp 1), none⟩, ⟨some 12, .load false 1 (.tmp 11), none⟩, ⟨some 13, .mov (.tmp 3), none⟩, ⟨some 14, .iaS 1 (.tmp 12) (.tmp 13), none⟩, ⟨some 15, .load false 1 (.tmp 14), none⟩, ⟨some 16, .bin .eql (.tmp 15) (.con (.str { data := #[42] })), none⟩]) (.keep [1, 2, 3, 16] (.cond (.tmp 16) (.keep [1, 2, 3] (.seq (.reg 5 [⟨some 17, .fad 0 (.tmp 1), none⟩, ⟨some 18, .load false 1 (.tmp 17), none⟩, ⟨some 19, .fad 1 (.tmp 1), none⟩, ⟨some 20, .load false 1 (.tmp 19), none⟩, ⟨some 21, .mov (.tmp 3), none⟩, ⟨some 22, .slV 1 (.tmp 20) none (some (.tmp 21)), none⟩, ⟨some 23, .build [.int .i64 0, .e0] [⟨0, 1, .tmp 18⟩, ⟨1, 1, .tmp 22⟩], none⟩, ⟨none, .store 2 (.tmp 2) (.tmp 23), none⟩]) .ret)) .skip)))) (.keep [1, 2, 3] (.rego 3 [⟨some 9, .mov (.tmp 3), none⟩, ⟨some 10, .bin .add (.tmp 9) (.con (.int .i64 1)), none⟩, ⟨some 3, .mov (.tmp 10), none⟩]))))))))) (.keep [1, 2] (.seq (.rego 6 [⟨some 24, .load true 2 (.tmp 1), none⟩, ⟨none, .store 2 (.tmp 2) (.tmp 24), none⟩]) .ret))))
theorem fdg19 : fnData Tryz.prog 19 = some (25, lcg19.erase, [LRV.cell 2 true 2]) := by kernel_rfl

def lcg27 : LC := .seq (.rego 0 [⟨some 2, .box (.tmp 0), none⟩, ⟨some 3, .box (.tmp 1), none⟩, ⟨some 4, .mov (.con (.bool false)), none⟩]) (.keep [2, 3] (.seq (.rego 1 [⟨some 5, .fad 0 (.tmp 2), none⟩, ⟨some 6, .load false 1 (.tmp 5), none⟩, ⟨some 7, .fad 0 (.tmp 3), none⟩, ⟨some 8, .load false 1 (.tmp 7), none⟩, ⟨some 9, .bin .eql (.tmp 6) (.tmp 8), none⟩, ⟨some 10, .mov (.tmp 9), none⟩, ⟨some 11, .fad 1 (.tmp 2), some ⟨10, true⟩⟩, ⟨some 12, .load false 1 (.tmp 11), some ⟨10, true⟩⟩, ⟨some 13, .fad 1 (.tmp 3), some ⟨10, true⟩⟩, ⟨some 14, .load false 1 (.tmp 13), some ⟨10, true⟩⟩, ⟨some 15, .call 56 [.tmp 12, .tmp 14], some ⟨10, true⟩⟩, ⟨some 16, .pick (.tmp 10) (.tmp 15) (.con (.bool false)), none⟩, ⟨some 4, .mov (.tmp 16), none⟩]) .ret))
theorem fdg27 : fnData Tryz.prog 27 = some (17, lcg27.erase, [LRV.tmp 4]) := by kernel_rfl

def lcg28 : LC := .seq (.rego 0 [⟨some 4, .mov (.con (.bool false)), none⟩]) (.keep [0, 1] (.seq (.rego 1 [⟨some 5, .mov (.tmp 0), none⟩, ⟨some 6, .mov (.tmp 1), none⟩, ⟨some 7, .call 57 [.tmp 5, .tmp 6], none⟩, ⟨some 8, .bin .geq (.tmp 7) (.con (.int .i64 0)), none⟩, ⟨some 4, .mov (.tmp 8), none⟩]) .ret))
theorem fdg28 : fnData Tryz.prog 28 = some (9, lcg28.erase, [LRV.tmp 4]) := by kernel_rfl

def lcg29 : LC := .seq (.rego 0 [⟨some 2, .box (.tmp 0), none⟩, ⟨some 3, .mov (.con (.bool false)), none⟩]) (.keep [1, 2] (.seq (.rego 1 [⟨some 4, .load true 2 (.tmp 2), none⟩, ⟨some 5, .load true 2 (.tmp 1), none⟩, ⟨some 6, .call 30 [.tmp 4, .tmp 5], none⟩, ⟨some 3, .mov (.tmp 6), none⟩]) .ret))
theorem fdg29 : fnData Tryz.prog 29 = some (7, lcg29.erase, [LRV.tmp 3]) := by kernel_rfl

def lcg30 : LC := .seq (.rego 0 [⟨some 2, .box (.tmp 0), none⟩, ⟨some 3, .box (.tmp 1), none⟩, ⟨some 4, .mov (.con (.bool false)), none⟩]) (.keep [2, 3] (.seq (.regf 1 [0, 1, 0, 4, 15, 31, 63, 127, 255, 63, 575, 1599, 4095, 8191, 16383, 32767, 65535, 32767, 163839, 32767, 557055, 1605631, 4095999, 8388607, 16777215, 33554431] [⟨some 5, .fad 0 (.tmp 2), none⟩, ⟨some 6, .load false 1 (.tmp 5), none⟩, ⟨some 7, .fad 0 (.tmp 3), none⟩, ⟨some 8, .load false 1 (.tmp 7), none⟩, ⟨some 9, .bin .eql (.tmp 6) (.tmp 8), none⟩, ⟨some 10, .mov (.tmp 9), none⟩, ⟨some 11, .fad 1 (.tmp 2), some ⟨10, true⟩⟩, ⟨some 12, .load false 1 (.tmp 11), some ⟨10, true⟩⟩, ⟨some 13, .len false (.tmp 12), some ⟨10, true⟩⟩, ⟨some 14, .fad 1 (.tmp 3), some ⟨10, true⟩⟩, ⟨some 15, .load false 1 (.tmp 14), some ⟨10, true⟩⟩, ⟨some 16, .len false (.tmp 15), some ⟨10, true⟩⟩, ⟨some 17, .bin .leq (.tmp 13) (.tmp 16), some ⟨10, true⟩⟩, ⟨some 18, .pick (.tmp 10) (.tmp 17) (.con (.bool false)), none⟩, ⟨some 19, .mov (.tmp 18), none⟩, ⟨some 20, .fad 1 (.tmp 2), some ⟨19, true⟩⟩, ⟨some 21, .load false 1 (.tmp 20), some ⟨19, true⟩⟩, ⟨some 22, .fad 1 (.tmp 3), some ⟨19, true⟩⟩, ⟨some 23, .load false 1 (.tmp 22), some ⟨19, true⟩⟩, ⟨some 24, .fad 1 (.tmp 2), some ⟨19, true⟩⟩, ⟨some 25, .load false 1 (.tmp 24), some ⟨19, true⟩⟩, ⟨some 26, .len false (.tmp 25), some ⟨19, true⟩⟩, ⟨some 27, .slV 1 (.tmp 23) none (some (.tmp 26)), some ⟨19, true⟩⟩, ⟨some 28, .call 58 [.tmp 21, .tmp 27], some ⟨19, true⟩⟩, ⟨some 29, .pick (.tmp 19) (.tmp 28) (.con (.bool false)), none⟩, ⟨some 4, .mov (.tmp 29), none⟩]) .ret))
theorem fdg30 : fnData Tryz.prog 30 = some (30, lcg30.erase, [LRV.tmp 4]) := by kernel_rfl

def lcg31 : LC := .seq (.rego 0 [⟨some 2, .mov (.con .e0), none⟩]) (.keep [0] (.seq (.rego 1 [⟨some 3, .mov (.con .e0), none⟩]) (.keep [0, 3] (.seq (.seq (.rego 2 [⟨some 6, .mov (.tmp 0), none⟩, ⟨some 7, .len false (.tmp 6), none⟩, ⟨some 8, .mov (.con (.int .i64 0)), none⟩]) (.keep [3, 6, 7, 8] (.block 0 (.loop (.seq (.rego 3 [⟨some 9, .bin .lss (.tmp 8) (.tmp 7), none⟩]) (.keep [3, 6, 7, 8, 9] (.seq (.cond (.tmp 9) .skip (.exit 0)) (.keep [3, 6, 7, 8] (.seq (.block 1 (.seq (.rego 4 [⟨some 10, .iaS 2 (.tmp 6) (.tmp 8), none⟩, ⟨some 11, .load true 2 (.tmp 10), none⟩, ⟨some 5, .new [.int .i64 0, .e0], none⟩, ⟨none, .store 2 (.tmp 5) (.tmp 11), none⟩]) (.keep [3, 5, 6, 7, 8] (.rego 5 [⟨some 12, .mov (.tmp 3), none⟩, ⟨some 13, .load true 2 (.tmp 5), none⟩, ⟨some 14, .call 34 [.tmp 13], none⟩, ⟨some 15, .bsl 1 [.int .i64 0, .e0] [⟨0, 2, .tmp 14⟩], none⟩, ⟨some 16, .app 2 32 (.tmp 12) (.tmp 15), none⟩, ⟨some 3, .mov (.tmp 16), none⟩])))) (.keep [3, 6, 7, 8] (.rego 6 [⟨some 17, .bin .add (.tmp 8) (.con (.int .i64 1)), none⟩, ⟨some 8, .mov (.tmp 17), none⟩]))))))))))) (.keep [3] (.seq (.rego 7 [⟨some 18, .mov (.tmp 3), none⟩, ⟨some 2, .mov (.tmp 18), none⟩]) .ret))))))
theorem fdg31 : fnData Tryz.prog 31 = some (19, lcg31.erase, [LRV.tmp 2]) := by kernel_rfl

def lcg33 : LC := .seq (.rego 0 [⟨some 3, .box (.tmp 1), none⟩, ⟨some 4, .mov (.con .e0), none⟩]) (.keep [0, 3] (.seq (.rego 1 [⟨some 5, .mov (.con .e0), none⟩]) (.keep [0, 3, 5] (.seq (.seq (.rego 2 [⟨some 8, .mov (.tmp 0), none⟩, ⟨some 9, .len false (.tmp 8), none⟩, ⟨some 10, .mov (.con (.int .i64 0)), none⟩]) (.keep [3, 5, 8, 9, 10] (.block 0 (.loop (.seq (.rego 3 [⟨some 11, .bin .lss (.tmp 10) (.tmp 9), none⟩]) (.keep [3, 5, 8, 9, 10, 11] (.seq (.cond (.tmp 11) .skip (.exit 0)) (.keep [3, 5, 8, 9, 10] (.seq (.block 1 (.seq (.rego 4 [⟨some 12, .iaS 2 (.tmp 8) (.tmp 10), none⟩, ⟨some 13, .load true 2 (.tmp 12), none⟩, ⟨some 7, .new [.int .i64 0, .e0], none⟩, ⟨none, .store 2 (.tmp 7) (.tmp 13), none⟩]) (.keep [3, 5, 7, 8, 9, 10] (.seq (.rego 5 [⟨some 14, .load true 2 (.tmp 3), none⟩, ⟨some 15, .load true 2 (.tmp 7), none⟩, ⟨some 16, .call 30 [.tmp 14, .tmp 15], none⟩, ⟨some 17, .un .not (.tmp 16), none⟩]) (.keep [3, 5, 7, 8, 9, 10, 17] (.cond (.tmp 17) (.keep [3, 5, 7, 8, 9, 10] (.rego 6 [⟨some 18, .mov (.tmp 5), none⟩, ⟨some 19, .load true 2 (.tmp 7), none⟩, ⟨some 20, .call 34 [.tmp 19], none⟩, ⟨some 21, .bsl 1 [.int .i64 0, .e0] [⟨0, 2, .tmp 20⟩], none⟩, ⟨some 22, .app 2 32 (.tmp 18) (.tmp 21), none⟩, ⟨some 5, .mov (.tmp 22), none⟩])) .skip)))))) (.keep [3, 5, 8, 9, 10] (.rego 7 [⟨some 23, .bin .add (.tmp 10) (.con (.int .i64 1)), none⟩, ⟨some 10, .mov (.tmp 23), none⟩]))))))))))) (.keep [5] (.seq (.rego 8 [⟨some 24, .mov (.tmp 5), none⟩, ⟨some 4, .mov (.tmp 24), none⟩]) .ret))))))
theorem fdg33 : fnData Tryz.prog 33 = some (25, lcg33.erase, [LRV.tmp 4]) := by kernel_rfl

def lcg34 : LC := .seq (.rego 0 [⟨some 1, .box (.tmp 0), none⟩, ⟨some 2, .new [.int .i64 0, .e0], none⟩]) (.keep [1, 2] (.seq (.rego 1 [⟨some 3, .fad 1 (.tmp 1), none⟩, ⟨some 4, .load false 1 (.tmp 3), none⟩, ⟨some 5, .appE 1 16 (.con .e0) (.tmp 4), none⟩, ⟨some 6, .fad 1 (.tmp 1), none⟩, ⟨none, .store 1 (.tmp 6) (.tmp 5), none⟩]) (.keep [1, 2] (.seq (.rego 2 [⟨some 7, .load true 2 (.tmp 1), none⟩, ⟨none, .store 2 (.tmp 2) (.tmp 7), none⟩]) .ret))))
theorem fdg34 : fnData Tryz.prog 34 = some (8, lcg34.erase, [LRV.cell 2 true 2]) := by kernel_rfl

def lcg35 : LC := .seq (.rego 0 [⟨some 4, .mov (.con (.bool false)), none⟩]) (.keep [0, 1] (.seq (.rego 1 [⟨some 5, .mov (.tmp 0), none⟩, ⟨some 6, .mov (.tmp 1), none⟩, ⟨some 7, .call 62 [.tmp 5, .tmp 6], none⟩, ⟨some 8, .bin .geq (.tmp 7) (.con (.int .i64 0)), none⟩, ⟨some 4, .mov (.tmp 8), none⟩]) .ret))
theorem fdg35 : fnData Tryz.prog 35 = some (9, lcg35.erase, [LRV.tmp 4]) := by kernel_rfl

def lcg36 : LC := .seq (.rego 0 [⟨some 2, .box (.tmp 0), none⟩, ⟨some 3, .mov (.con (.bool false)), none⟩]) (.keep [1, 2] (.seq (.rego 1 [⟨some 4, .load true 2 (.tmp 2), none⟩, ⟨some 5, .load true 2 (.tmp 1), none⟩, ⟨some 6, .call 30 [.tmp 4, .tmp 5], none⟩, ⟨some 7, .mov (.tmp 6), none⟩, ⟨some 8, .load true 2 (.tmp 2), some ⟨7, true⟩⟩, ⟨some 9, .load true 2 (.tmp 1), some ⟨7, true⟩⟩, ⟨some 10, .call 37 [.tmp 8, .tmp 9], some ⟨7, true⟩⟩, ⟨some 11, .un .not (.tmp 10), some ⟨7, true⟩⟩, ⟨some 12, .pick (.tmp 7) (.tmp 11) (.con (.bool false)), none⟩, ⟨some 3, .mov (.tmp 12), none⟩]) .ret))
theorem fdg36 : fnData Tryz.prog 36 = some (13, lcg36.erase, [LRV.tmp 3]) := by kernel_rfl

def lcg37 : LC := .seq (.rego 0 [⟨some 2, .box (.tmp 0), none⟩, ⟨some 3, .box (.tmp 1), none⟩, ⟨some 4, .mov (.con (.bool false)), none⟩]) (.keep [2, 3] (.seq (.rego 1 [⟨some 5, .load true 2 (.tmp 2), none⟩, ⟨some 6, .load true 2 (.tmp 3), none⟩, ⟨some 7, .call 30 [.tmp 5, .tmp 6], none⟩, ⟨some 8, .mov (.tmp 7), none⟩, ⟨some 9, .load true 2 (.tmp 3), some ⟨8, true⟩⟩, ⟨some 10, .load true 2 (.tmp 2), some ⟨8, true⟩⟩, ⟨some 11, .call 30 [.tmp 9, .tmp 10], some ⟨8, true⟩⟩, ⟨some 12, .pick (.tmp 8) (.tmp 11) (.con (.bool false)), none⟩, ⟨some 4, .mov (.tmp 12), none⟩]) .ret))
theorem fdg37 : fnData Tryz.prog 37 = some (13, lcg37.erase, [LRV.tmp 4]) := by kernel_rfl

def lcg38 : LC := .seq (.rego 0 [⟨some 1, .box (.tmp 0), none⟩, ⟨some 2, .mov (.con (.bool false)), none⟩]) (.keep [1] (.seq (.regf 1 [0, 1, 3, 7, 0, 16, 48, 127, 255] [⟨some 3, .load true 2 (.tmp 1), none⟩, ⟨some 4, .call 19 [.tmp 3], none⟩, ⟨some 5, .fld false 1 1 (.tmp 4), none⟩, ⟨some 6, .len false (.tmp 5), none⟩, ⟨some 7, .fad 1 (.tmp 1), none⟩, ⟨some 8, .load false 1 (.tmp 7), none⟩, ⟨some 9, .len false (.tmp 8), none⟩, ⟨some 10, .bin .neq (.tmp 6) (.tmp 9), none⟩, ⟨some 2, .mov (.tmp 10), none⟩]) .ret))
theorem fdg38 : fnData Tryz.prog 38 = some (11, lcg38.erase, [LRV.tmp 2]) := by kernel_rfl

def lcg39 : LC := .seq (.rego 0 [⟨some 3, .box (.tmp 1), none⟩, ⟨some 4, .mov (.con (.bool false)), none⟩]) (.keep [0, 3] (.seq (.seq (.rego 1 [⟨some 5, .mov (.con (.int .i64 0)), none⟩]) (.keep [0, 3, 5] (.block 0 (.loop (.seq (.seq (.rego 2 [⟨some 6, .mov (.tmp 5), none⟩, ⟨some 7, .mov (.tmp 0), none⟩, ⟨some 8, .len false (.tmp 7), none⟩, ⟨some 9, .bin .lss (.tmp 6) (.tmp 8), none⟩]) (.keep [0, 3, 5, 9] (.cond (.tmp 9) .skip (.exit 0)))) (.keep [0, 3, 5] (.seq (.block 1 (.seq (.regf 4 [0, 0, 3, 7, 0, 31, 63, 127, 127, 511, 1023, 2047, 4095, 127, 8319, 24703, 65535, 131071] [⟨some 12, .mov (.tmp 0), none⟩, ⟨some 13, .mov (.tmp 5), none⟩, ⟨some 14, .iaS 2 (.tmp 12) (.tmp 13), none⟩, ⟨some 15, .load true 2 (.tmp 14), none⟩, ⟨some 16, .load true 2 (.tmp 3), none⟩, ⟨some 17, .call 17 [.tmp 15, .tmp 16], none⟩, ⟨some 18, .mov (.tmp 17), none⟩, ⟨some 19, .mov (.tmp 0), some ⟨18, true⟩⟩, ⟨some 20, .mov (.tmp 5), some ⟨18, true⟩⟩, ⟨some 21, .iaS 2 (.tmp 19) (.tmp 20), some ⟨18, true⟩⟩, ⟨some 22, .fad 1 (.tmp 21), some ⟨18, true⟩⟩, ⟨some 23, .load false 1 (.tmp 22), some ⟨18, true⟩⟩, ⟨some 24, .len false (.tmp 23), some ⟨18, true⟩⟩, ⟨some 25, .fad 1 (.tmp 3), some ⟨18, true⟩⟩, ⟨some 26, .load false 1 (.tmp 25), some ⟨18, true⟩⟩, ⟨some 27, .len false (.tmp 26), some ⟨18, true⟩⟩, ⟨some 28, .bin .lss (.tmp 24) (.tmp 27), some ⟨18, true⟩⟩, ⟨some 29, .pick (.tmp 18) (.tmp 28) (.con (.bool false)), none⟩]) (.keep [0, 3, 5, 29] (.cond (.tmp 29) (.keep [] (.seq (.rego 5 [⟨some 4, .mov (.con (.bool true)), none⟩]) .ret)) .skip)))) (.keep [0, 3, 5] (.rego 3 [⟨some 10, .mov (.tmp 5), none⟩, ⟨some 11, .bin .add (.tmp 10) (.con (.int .i64 1)), none⟩, ⟨some 5, .mov (.tmp 11), none⟩]))))))))) (.keep [] (.seq (.rego 6 [⟨some 4, .mov (.con (.bool false)), none⟩]) .ret))))
theorem fdg39 : fnData Tryz.prog 39 = some (30, lcg39.erase, [LRV.tmp 4]) := by kernel_rfl

def lcg40 : LC := .seq (.rego 0 [⟨some 4, .box (.tmp 1), none⟩, ⟨some 6, .mov (.con .e0), none⟩]) (.keep [0, 2, 4] (.seq (.seq (.rego 1 [⟨some 9, .load true 16 (.tmp 4), none⟩, ⟨some 10, .call 63 [.tmp 9], none⟩, ⟨some 11, .len false (.tmp 10), none⟩, ⟨some 12, .mov (.con (.int .i64 0)), none⟩]) (.keep [0, 2, 10, 11, 12] (.block 0 (.loop (.seq (.rego 2 [⟨some 13, .bin .lss (.tmp 12) (.tmp 11), none⟩]) (.keep [0, 2, 10, 11, 12, 13] (.seq (.cond (.tmp 13) .skip (.exit 0)) (.keep [0, 2, 10, 11, 12] (.seq (.block 1 (.seq (.rego 3 [⟨some 14, .iaS 4 (.tmp 10) (.tmp 12), none⟩, ⟨some 15, .load true 4 (.tmp 14), none⟩, ⟨some 8, .new [.int .i64 0, .int .i64 0, .int .i64 0, .e0], none⟩, ⟨none, .store 4 (.tmp 8) (.tmp 15), none⟩]) (.keep [0, 2, 8, 10, 11, 12] (.seq (.seq (.rego 4 [⟨some 16, .mov (.tmp 2), none⟩, ⟨some 17, .eqf true (.tmp 16) (.con .nilf), none⟩]) (.keep [0, 2, 8, 10, 11, 12, 17] (.cond (.tmp 17) (.keep [0, 2, 8, 10, 11, 12] (.rego 5 [⟨some 18, .mov (.tmp 2), none⟩, ⟨some 19, .mov (.tmp 0), none⟩, ⟨some 20, .load true 4 (.tmp 8), none⟩, ⟨some 21, .callv (.tmp 18) [.tmp 19, .tmp 20], none⟩])) .skip))) (.keep [0, 2, 8, 10, 11, 12] (.seq (.rego 6 [⟨some 22, .fad 0 (.tmp 8), none⟩, ⟨some 23, .load false 1 (.tmp 22), none⟩, ⟨some 24, .bin .eql (.tmp 23) (.con (.int .i64 4)), none⟩]) (.keep [0, 2, 8, 10, 11, 12, 24] (.cond (.tmp 24) (.keep [0, 2, 8, 10, 11, 12] (.rego 7 [⟨some 25, .mov (.tmp 0), none⟩, ⟨some 26, .fad 2 (.tmp 8), none⟩, ⟨some 27, .load true 2 (.tmp 26), none⟩, ⟨some 28, .call 11 [.tmp 25, .tmp 27], none⟩, ⟨some 0, .mov (.tmp 28), none⟩])) .skip)))))))) (.keep [0, 2, 10, 11, 12] (.rego 8 [⟨some 29, .bin .add (.tmp 12) (.con (.int .i64 1)), none⟩, ⟨some 12, .mov (.tmp 29), none⟩]))))))))))) (.keep [0] (.seq (.rego 9 [⟨some 30, .mov (.tmp 0), none⟩, ⟨some 6, .mov (.tmp 30), none⟩]) .ret))))
theorem fdg40 : fnData Tryz.prog 40 = some (31, lcg40.erase, [LRV.tmp 6]) := by kernel_rfl

def lcg56 : LC := .seq (.rego 0 [⟨some 4, .mov (.con (.bool false)), none⟩]) (.keep [0, 1] (.seq (.seq (.rego 1 [⟨some 6, .mov (.tmp 0), none⟩, ⟨some 7, .len false (.tmp 6), none⟩, ⟨some 8, .mov (.tmp 1), none⟩, ⟨some 9, .len false (.tmp 8), none⟩, ⟨some 10, .bin .neq (.tmp 7) (.tmp 9), none⟩]) (.keep [0, 1, 10] (.cond (.tmp 10) (.keep [] (.seq (.rego 2 [⟨some 4, .mov (.con (.bool false)), none⟩]) .ret)) .skip))) (.keep [0, 1] (.seq (.seq (.rego 3 [⟨some 5, .mov (.con (.int .i64 0)), none⟩]) (.keep [0, 1, 5] (.block 0 (.loop (.seq (.seq (.rego 4 [⟨some 11, .mov (.tmp 5), none⟩, ⟨some 12, .mov (.tmp 0), none⟩, ⟨some 13, .len false (.tmp 12), none⟩, ⟨some 14, .bin .lss (.tmp 11) (.tmp 13), none⟩]) (.keep [0, 1, 5, 14] (.cond (.tmp 14) .skip (.exit 0)))) (.keep [0, 1, 5] (.seq (.block 1 (.seq (.reg 6 [⟨some 17, .mov (.tmp 0), none⟩, ⟨some 18, .mov (.tmp 5), none⟩, ⟨some 19, .iaS 1 (.tmp 17) (.tmp 18), none⟩, ⟨some 20, .load false 1 (.tmp 19), none⟩, ⟨some 21, .mov (.tmp 1), none⟩, ⟨some 22, .mov (.tmp 5), none⟩, ⟨some 23, .iaS 1 (.tmp 21) (.tmp 22), none⟩, ⟨some 24, .load false 1 (.tmp 23), none⟩, ⟨some 25, .bin .neq (.tmp 20) (.tmp 24), none⟩]) (.keep [0, 1, 5, 25] (.cond (.tmp 25) (.keep [] (.seq (.rego 7 [⟨some 4, .mov (.con (.bool false)), none⟩]) .ret)) .skip)))) (.keep [0, 1, 5] (.rego 5 [⟨some 15, .mov (.tmp 5), none⟩, ⟨some 16, .bin .add (.tmp 15) (.con (.int .i64 1)), none⟩, ⟨some 5, .mov (.tmp 16), none⟩]))))))))) (.keep [] (.seq (.rego 8 [⟨some 4, .mov (.con (.bool true)), none⟩]) .ret))))))
theorem fdg56 : fnData Tryz.prog 56 = some (26, lcg56.erase, [LRV.tmp 4]) := by kernel_rfl

def lcg57 : LC := .seq (.rego 0 [⟨some 4, .mov (.con (.int .i64 0)), none⟩]) (.keep [0, 1] (.seq (.seq (.rego 1 [⟨some 6, .mov (.tmp 0), none⟩, ⟨some 7, .len false (.tmp 6), none⟩, ⟨some 8, .mov (.con (.int .i64 0)), none⟩]) (.keep [0, 1, 7, 8] (.block 0 (.loop (.seq (.rego 2 [⟨some 9, .bin .lss (.tmp 8) (.tmp 7), none⟩]) (.keep [0, 1, 7, 8, 9] (.seq (.cond (.tmp 9) .skip (.exit 0)) (.keep [0, 1, 7, 8] (.seq (.block 1 (.seq (.rego 3 [⟨some 10, .mov (.tmp 8), none⟩, ⟨some 5, .mov (.tmp 10), none⟩]) (.keep [0, 1, 5, 7, 8] (.seq (.rego 4 [⟨some 11, .mov (.tmp 1), none⟩, ⟨some 12, .mov (.tmp 0), none⟩, ⟨some 13, .mov (.tmp 5), none⟩, ⟨some 14, .iaS 2 (.tmp 12) (.tmp 13), none⟩, ⟨some 15, .load true 2 (.tmp 14), none⟩, ⟨some 16, .callv (.tmp 11) [.tmp 15], none⟩]) (.keep [0, 1, 5, 7, 8, 16] (.cond (.tmp 16) (.keep [5] (.seq (.rego 5 [⟨some 17, .mov (.tmp 5), none⟩, ⟨some 4, .mov (.tmp 17), none⟩]) .ret)) .skip)))))) (.keep [0, 1, 7, 8] (.rego 6 [⟨some 18, .bin .add (.tmp 8) (.con (.int .i64 1)), none⟩, ⟨some 8, .mov (.tmp 18), none⟩]))))))))))) (.keep [] (.seq (.rego 7 [⟨some 4, .mov (.con (.int .i64 (-1))), none⟩]) .ret))))
theorem fdg57 : fnData Tryz.prog 57 = some (19, lcg57.erase, [LRV.tmp 4]) := by kernel_rfl

def lcg58 : LC := .seq (.rego 0 [⟨some 4, .mov (.con (.bool false)), none⟩]) (.keep [0, 1] (.seq (.seq (.rego 1 [⟨some 6, .mov (.tmp 0), none⟩, ⟨some 7, .len false (.tmp 6), none⟩, ⟨some 8, .mov (.tmp 1), none⟩, ⟨some 9, .len false (.tmp 8), none⟩, ⟨some 10, .bin .neq (.tmp 7) (.tmp 9), none⟩]) (.keep [0, 1, 10] (.cond (.tmp 10) (.keep [] (.seq (.rego 2 [⟨some 4, .mov (.con (.bool false)), none⟩]) .ret)) .skip))) (.keep [0, 1] (.seq (.seq (.rego 3 [⟨some 11, .mov (.tmp 0), none⟩, ⟨some 12, .len false (.tmp 11), none⟩, ⟨some 13, .mov (.con (.int .i64 0)), none⟩]) (.keep [0, 1, 12, 13] (.block 0 (.loop (.seq (.rego 4 [⟨some 14, .bin .lss (.tmp 13) (.tmp 12), none⟩]) (.keep [0, 1, 12, 13, 14] (.seq (.cond (.tmp 14) .skip (.exit 0)) (.keep [0, 1, 12, 13] (.seq (.block 1 (.seq (.rego 5 [⟨some 15, .mov (.tmp 13), none⟩, ⟨some 5, .mov (.tmp 15), none⟩]) (.keep [0, 1, 5, 12, 13] (.seq (.reg 6 [⟨some 16, .mov (.tmp 0), none⟩, ⟨some 17, .mov (.tmp 5), none⟩, ⟨some 18, .iaS 1 (.tmp 16) (.tmp 17), none⟩, ⟨some 19, .load false 1 (.tmp 18), none⟩, ⟨some 20, .mov (.tmp 1), none⟩, ⟨some 21, .mov (.tmp 5), none⟩, ⟨some 22, .iaS 1 (.tmp 20) (.tmp 21), none⟩, ⟨some 23, .load false 1 (.tmp 22), none⟩, ⟨some 24, .bin .neq (.tmp 19) (.tmp 23), none⟩]) (.keep [0, 1, 12, 13, 24] (.cond (.tmp 24) (.keep [] (.seq (.rego 7 [⟨some 4, .mov (.con (.bool false)), none⟩]) .ret)) .skip)))))) (.keep [0, 1, 12, 13] (.rego 8 [⟨some 25, .bin .add (.tmp 13) (.con (.int .i64 1)), none⟩, ⟨some 13, .mov (.tmp 25), none⟩]))))))))))) (.keep [] (.seq (.rego 9 [⟨some 4, .mov (.con (.bool true)), none⟩]) .ret))))))
theorem fdg58 : fnData Tryz.prog 58 = some (26, lcg58.erase, [LRV.tmp 4]) := by kernel_rfl

def lcg60 : LC := .seq (.rego 0 [⟨some 2, .box (.tmp 0), none⟩, ⟨some 3, .box (.tmp 1), none⟩, ⟨some 4, .mov (.con (.int .i64 0)), none⟩]) (.keep [2, 3] (.seq (.block 0 (.seq (.rego 1 [⟨some 6, .load true 2 (.tmp 2), none⟩, ⟨some 7, .load true 2 (.tmp 3), none⟩, ⟨some 8, .call 61 [.tmp 6, .tmp 7], none⟩, ⟨some 5, .mov (.tmp 8), none⟩]) (.keep [2, 3, 5] (.cond (.tmp 5) (.keep [] (.seq (.rego 2 [⟨some 4, .mov (.con (.int .i64 (-1))), none⟩]) .ret)) (.keep [2, 3] (.seq (.rego 3 [⟨some 10, .load true 2 (.tmp 3), none⟩, ⟨some 11, .load true 2 (.tmp 2), none⟩, ⟨some 12, .call 61 [.tmp 10, .tmp 11], none⟩, ⟨some 9, .mov (.tmp 12), none⟩]) (.keep [9] (.cond (.tmp 9) (.keep [] (.seq (.rego 4 [⟨some 4, .mov (.con (.int .i64 1)), none⟩]) .ret)) .skip)))))))) (.keep [] (.seq (.rego 5 [⟨some 4, .mov (.con (.int .i64 0)), none⟩]) .ret))))
theorem fdg60 : fnData Tryz.prog 60 = some (13, lcg60.erase, [LRV.tmp 4]) := by kernel_rfl

def lcg61 : LC := .seq (.rego 0 [⟨some 2, .box (.tmp 0), none⟩, ⟨some 3, .box (.tmp 1), none⟩, ⟨some 4, .mov (.con (.bool false)), none⟩]) (.keep [2, 3] (.seq (.seq (.rego 1 [⟨some 5, .fad 0 (.tmp 2), none⟩, ⟨some 6, .load false 1 (.tmp 5), none⟩, ⟨some 7, .fad 0 (.tmp 3), none⟩, ⟨some 8, .load false 1 (.tmp 7), none⟩, ⟨some 9, .bin .neq (.tmp 6) (.tmp 8), none⟩]) (.keep [2, 3, 9] (.cond (.tmp 9) (.keep [2, 3] (.seq (.rego 2 [⟨some 10, .fad 0 (.tmp 2), none⟩, ⟨some 11, .load false 1 (.tmp 10), none⟩, ⟨some 12, .fad 0 (.tmp 3), none⟩, ⟨some 13, .load false 1 (.tmp 12), none⟩, ⟨some 14, .bin .lss (.tmp 11) (.tmp 13), none⟩, ⟨some 4, .mov (.tmp 14), none⟩]) .ret)) .skip))) (.keep [2, 3] (.seq (.rego 3 [⟨some 15, .fad 1 (.tmp 2), none⟩, ⟨some 16, .load false 1 (.tmp 15), none⟩, ⟨some 17, .fad 1 (.tmp 3), none⟩, ⟨some 18, .load false 1 (.tmp 17), none⟩, ⟨some 19, .call 73 [.tmp 16, .tmp 18], none⟩, ⟨some 20, .bin .lss (.tmp 19) (.con (.int .i64 0)), none⟩, ⟨some 4, .mov (.tmp 20), none⟩]) .ret))))
theorem fdg61 : fnData Tryz.prog 61 = some (21, lcg61.erase, [LRV.tmp 4]) := by kernel_rfl

def lcg62 : LC := .seq (.rego 0 [⟨some 4, .mov (.con (.int .i64 0)), none⟩]) (.keep [0, 1] (.seq (.seq (.rego 1 [⟨some 6, .mov (.tmp 0), none⟩, ⟨some 7, .len false (.tmp 6), none⟩, ⟨some 8, .mov (.con (.int .i64 0)), none⟩]) (.keep [0, 1, 7, 8] (.block 0 (.loop (.seq (.rego 2 [⟨some 9, .bin .lss (.tmp 8) (.tmp 7), none⟩]) (.keep [0, 1, 7, 8, 9] (.seq (.cond (.tmp 9) .skip (.exit 0)) (.keep [0, 1, 7, 8] (.seq (.block 1 (.seq (.rego 3 [⟨some 10, .mov (.tmp 8), none⟩, ⟨some 5, .mov (.tmp 10), none⟩]) (.keep [0, 1, 5, 7, 8] (.seq (.rego 4 [⟨some 11, .mov (.tmp 1), none⟩, ⟨some 12, .mov (.tmp 0), none⟩, ⟨some 13, .mov (.tmp 5), none⟩, ⟨some 14, .iaS 1 (.tmp 12) (.tmp 13), none⟩, ⟨some 15, .load false 1 (.tmp 14), none⟩, ⟨some 16, .bin .eql (.tmp 11) (.tmp 15), none⟩]) (.keep [0, 1, 5, 7, 8, 16] (.cond (.tmp 16) (.keep [5] (.seq (.rego 5 [⟨some 17, .mov (.tmp 5), none⟩, ⟨some 4, .mov (.tmp 17), none⟩]) .ret)) .skip)))))) (.keep [0, 1, 7, 8] (.rego 6 [⟨some 18, .bin .add (.tmp 8) (.con (.int .i64 1)), none⟩, ⟨some 8, .mov (.tmp 18), none⟩]))))))))))) (.keep [] (.seq (.rego 7 [⟨some 4, .mov (.con (.int .i64 (-1))), none⟩]) .ret))))
theorem fdg62 : fnData Tryz.prog 62 = some (19, lcg62.erase, [LRV.tmp 4]) := by kernel_rfl

def lcg63 : LC := .seq (.rego 0 [⟨some 1, .box (.tmp 0), none⟩, ⟨some 2, .mov (.con .e0), none⟩]) (.keep [1] (.seq (.seq (.rego 1 [⟨some 3, .fad 0 (.tmp 1), none⟩, ⟨some 4, .load false 1 (.tmp 3), none⟩]) (.keep [1, 4] (.block 0 (.seq (.block 5 (.block 4 (.seq (.block 3 (.block 2 (.seq (.block 1 (.seq (.seq (.seq (.rego 2 [⟨some 6, .bin .eql (.tmp 4) (.con (.int .i64 5)), none⟩, ⟨some 5, .mov (.tmp 6), none⟩]) (.keep [1, 4, 5] (.cond (.tmp 5) (.exit 1) .skip))) (.keep [1, 4] (.seq (.seq (.rego 3 [⟨some 8, .bin .eql (.tmp 4) (.con (.int .i64 4)), none⟩, ⟨some 7, .mov (.tmp 8), none⟩]) (.keep [1, 4, 7] (.cond (.tmp 7) (.exit 2) .skip))) (.keep [1, 4] (.seq (.seq (.rego 4 [⟨some 10, .bin .eql (.tmp 4) (.con (.int .i64 1)), none⟩, ⟨some 9, .mov (.tmp 10), none⟩]) (.keep [1, 4, 9] (.cond (.tmp 9) (.exit 3) .skip))) (.keep [1, 4] (.seq (.seq (.rego 5 [⟨some 12, .bin .eql (.tmp 4) (.con (.int .i64 6)), none⟩, ⟨some 11, .mov (.tmp 12), none⟩]) (.keep [1, 4, 11] (.cond (.tmp 11) (.exit 4) .skip))) (.keep [1, 4] (.seq (.rego 6 [⟨some 14, .bin .eql (.tmp 4) (.con (.int .i64 7)), none⟩, ⟨some 13, .mov (.tmp 14), none⟩]) (.keep [1, 13] (.cond (.tmp 13) (.exit 5) .skip))))))))))) (.exit 0))) (.keep [1] (.seq (.seq (.rego 7 [⟨some 15, .fad 1 (.tmp 1), none⟩, ⟨some 16, .load true 4 (.tmp 15), none⟩, ⟨some 17, .fad 5 (.tmp 1), none⟩, ⟨some 18, .load true 4 (.tmp 17), none⟩, ⟨some 19, .bsl 2 [.int .i64 0, .int .i64 0, .int .i64 0, .e0, .int .i64 0, .int .i64 0, .int .i64 0, .e0] [⟨0, 4, .tmp 16⟩, ⟨4, 4, .tmp 18⟩], none⟩, ⟨some 2, .mov (.tmp 19), none⟩]) .ret) (.exit 0)))))) (.keep [1] (.seq (.seq (.rego 8 [⟨some 20, .fad 1 (.tmp 1), none⟩, ⟨some 21, .load true 4 (.tmp 20), none⟩, ⟨some 22, .bsl 1 [.int .i64 0, .int .i64 0, .int .i64 0, .e0] [⟨0, 4, .tmp 21⟩], none⟩, ⟨some 2, .mov (.tmp 22), none⟩]) .ret) (.exit 0)))))) (.keep [1] (.seq (.seq (.rego 9 [⟨some 23, .fad 15 (.tmp 1), none⟩, ⟨some 24, .load false 1 (.tmp 23), none⟩, ⟨some 2, .mov (.tmp 24), none⟩]) .ret) (.exit 0))))))) (.keep [] (.seq (.rego 10 [⟨some 2, .mov (.con .e0), none⟩]) .ret))))
theorem fdg63 : fnData Tryz.prog 63 = some (25, lcg63.erase, [LRV.tmp 2]) := by kernel_rfl

def lcg73 : LC := .seq (.rego 0 [⟨some 4, .mov (.con (.int .i64 0)), none⟩]) (.keep [0, 1] (.seq (.seq (.rego 1 [⟨some 9, .mov (.tmp 0), none⟩, ⟨some 10, .len false (.tmp 9), none⟩, ⟨some 11, .mov (.con (.int .i64 0)), none⟩]) (.keep [0, 1, 9, 10, 11] (.block 0 (.loop (.seq (.rego 2 [⟨some 12, .bin .lss (.tmp 11) (.tmp 10), none⟩]) (.keep [0, 1, 9, 10, 11, 12] (.seq (.cond (.tmp 12) .skip (.exit 0)) (.keep [0, 1, 9, 10, 11] (.seq (.block 1 (.seq (.rego 3 [⟨some 13, .mov (.tmp 11), none⟩, ⟨some 14, .iaS 1 (.tmp 9) (.tmp 11), none⟩, ⟨some 15, .load false 1 (.tmp 14), none⟩, ⟨some 5, .mov (.tmp 13), none⟩, ⟨some 6, .mov (.tmp 15), none⟩]) (.keep [0, 1, 5, 6, 9, 10, 11] (.seq (.seq (.rego 4 [⟨some 16, .mov (.tmp 5), none⟩, ⟨some 17, .mov (.tmp 1), none⟩, ⟨some 18, .len false (.tmp 17), none⟩, ⟨some 19, .bin .geq (.tmp 16) (.tmp 18), none⟩]) (.keep [0, 1, 5, 6, 9, 10, 11, 19] (.cond (.tmp 19) (.keep [] (.seq (.rego 5 [⟨some 4, .mov (.con (.int .i64 1)), none⟩]) .ret)) .skip))) (.keep [0, 1, 5, 6, 9, 10, 11] (.seq (.rego 6 [⟨some 20, .mov (.tmp 1), none⟩, ⟨some 21, .mov (.tmp 5), none⟩, ⟨some 22, .iaS 1 (.tmp 20) (.tmp 21), none⟩, ⟨some 23, .load false 1 (.tmp 22), none⟩, ⟨some 7, .mov (.tmp 23), none⟩]) (.keep [0, 1, 6, 7, 9, 10, 11] (.seq (.rego 7 [⟨some 24, .mov (.tmp 6), none⟩, ⟨some 25, .mov (.tmp 7), none⟩, ⟨some 26, .call 96 [.tmp 24, .tmp 25], none⟩, ⟨some 8, .mov (.tmp 26), none⟩]) (.keep [0, 1, 8, 9, 10, 11] (.seq (.rego 8 [⟨some 27, .mov (.tmp 8), none⟩, ⟨some 28, .bin .neq (.tmp 27) (.con (.int .i64 0)), none⟩]) (.keep [0, 1, 8, 9, 10, 11, 28] (.cond (.tmp 28) (.keep [8] (.seq (.rego 9 [⟨some 29, .mov (.tmp 8), none⟩, ⟨some 4, .mov (.tmp 29), none⟩]) .ret)) .skip)))))))))))) (.keep [0, 1, 9, 10, 11] (.rego 10 [⟨some 30, .bin .add (.tmp 11) (.con (.int .i64 1)), none⟩, ⟨some 11, .mov (.tmp 30), none⟩]))))))))))) (.keep [0, 1] (.seq (.seq (.rego 11 [⟨some 31, .mov (.tmp 0), none⟩, ⟨some 32, .len false (.tmp 31), none⟩, ⟨some 33, .mov (.tmp 1), none⟩, ⟨some 34, .len false (.tmp 33), none⟩, ⟨some 35, .bin .lss (.tmp 32) (.tmp 34), none⟩]) (.keep [35] (.cond (.tmp 35) (.keep [] (.seq (.rego 12 [⟨some 4, .mov (.con (.int .i64 (-1))), none⟩]) .ret)) .skip))) (.keep [] (.seq (.rego 13 [⟨some 4, .mov (.con (.int .i64 0)), none⟩]) .ret))))))
theorem fdg73 : fnData Tryz.prog 73 = some (36, lcg73.erase, [LRV.tmp 4]) := by kernel_rfl

def lcg96 : LC := .seq (.rego 0 [⟨some 4, .mov (.con (.int .i64 0)), none⟩]) (.keep [0, 1] (.seq (.rego 1 [⟨some 7, .mov (.tmp 0), none⟩, ⟨some 8, .call 111 [.tmp 7], none⟩, ⟨some 5, .mov (.tmp 8), none⟩]) (.keep [0, 1, 5] (.seq (.rego 2 [⟨some 9, .mov (.tmp 1), none⟩, ⟨some 10, .call 111 [.tmp 9], none⟩, ⟨some 6, .mov (.tmp 10), none⟩]) (.keep [0, 1, 5, 6] (.seq (.seq (.rego 3 [⟨some 11, .mov (.tmp 5), none⟩]) (.keep [0, 1, 6, 11] (.cond (.tmp 11) (.keep [6] (.seq (.seq (.rego 4 [⟨some 12, .mov (.tmp 6), none⟩]) (.keep [12] (.cond (.tmp 12) (.keep [] (.seq (.rego 5 [⟨some 4, .mov (.con (.int .i64 0)), none⟩]) .ret)) .skip))) (.keep [] (.seq (.rego 6 [⟨some 4, .mov (.con (.int .i64 (-1))), none⟩]) .ret)))) .skip))) (.keep [0, 1, 6] (.seq (.seq (.rego 7 [⟨some 13, .mov (.tmp 6), none⟩]) (.keep [0, 1, 13] (.cond (.tmp 13) (.keep [] (.seq (.rego 8 [⟨some 4, .mov (.con (.int .i64 1)), none⟩]) .ret)) .skip))) (.keep [0, 1] (.seq (.seq (.rego 9 [⟨some 14, .mov (.tmp 0), none⟩, ⟨some 15, .mov (.tmp 1), none⟩, ⟨some 16, .bin .lss (.tmp 14) (.tmp 15), none⟩]) (.keep [0, 1, 16] (.cond (.tmp 16) (.keep [] (.seq (.rego 10 [⟨some 4, .mov (.con (.int .i64 (-1))), none⟩]) .ret)) .skip))) (.keep [0, 1] (.seq (.seq (.rego 11 [⟨some 17, .mov (.tmp 0), none⟩, ⟨some 18, .mov (.tmp 1), none⟩, ⟨some 19, .bin .gtr (.tmp 17) (.tmp 18), none⟩]) (.keep [19] (.cond (.tmp 19) (.keep [] (.seq (.rego 12 [⟨some 4, .mov (.con (.int .i64 1)), none⟩]) .ret)) .skip))) (.keep [] (.seq (.rego 13 [⟨some 4, .mov (.con (.int .i64 0)), none⟩]) .ret))))))))))))))
theorem fdg96 : fnData Tryz.prog 96 = some (20, lcg96.erase, [LRV.tmp 4]) := by kernel_rfl

def lcg111 : LC := .seq (.rego 0 [⟨some 2, .mov (.con (.bool false)), none⟩]) (.keep [0] (.seq (.rego 1 [⟨some 3, .mov (.tmp 0), none⟩, ⟨some 4, .mov (.tmp 0), none⟩, ⟨some 5, .bin .neq (.tmp 3) (.tmp 4), none⟩, ⟨some 2, .mov (.tmp 5), none⟩]) .ret))
theorem fdg111 : fnData Tryz.prog 111 = some (6, lcg111.erase, [LRV.tmp 2]) := by kernel_rfl

end Go.Proofs.YtlkdcgfjmhjjpaaGreat

set_option linter.unusedSimpArgs false
set_option linter.unusedVariables false
namespace Go.Proofs.YtlkdcgfjmhjjpaaGreat
open Go Go.Lg Go.RowKit
set_option linter.unusedVariables false
set_option linter.unusedSimpArgs false

theorem txt_eq (a b : ByteArray) : (a.toList == b.toList) = decide (a = b) := by
  rw [Bool.eq_iff_iff]
  simp only [beq_iff_eq, decide_eq_true_eq]
  exact ⟨ba_inj, fun h => by rw [h]⟩

theorem equalS_ret (a b : List ByteArray) (ha : a.length ≤ 4611686018427387904) : PRet Tryz.prog 58 [encL cS a, encL cS b] (.bool (decide (a = b))) := by
  refine pret_intro fdg58 (by simp) ?_
  simp only [lcg58, VCA, simprocAttr, encL, MCA]
  cases b0 : decide ((a.length : Int) = b.length) <;> simp only [VCA, simprocAttr, encL, MCA, b0]
  · have : decide (a = b) = false := decide_eq_false (by rintro rfl; simp at b0)
    rw [this]
  have hab : a.length = b.length := by have := of_decide_eq_true b0; omega
  refine loop_vcg (ι := Nat × (Nat → Nat)) (fun (k, c) => stO [(0, .val (encL cS a)), (1, .val (encL cS b)), (12, .val (.int .i64 a.length)), (13, .val (.int .i64 k))] c)
    (fun (k, _) => k ≤ a.length ∧ decide (a.drop k = b.drop k) = decide (a = b)) (fun (k, _) => a.length - k) (0, _) ⟨Nat.zero_le _, rfl⟩ (ent_of _ [] rfl rfl (by simp only [VCA, simprocAttr, encL, MCA])) ?_
  rintro ⟨k, c⟩ hk
  obtain ⟨hk, hb⟩ : k ≤ a.length ∧ decide (a.drop k = b.drop k) = decide (a = b) := hk
  simp only [VCA, simprocAttr, encL, MCA]
  refine condD_of (fun h => ?_) (fun h => ?_)
  · have ha' : k < a.length := by omega
    have hb' : k < b.length := by omega
    have h1 : 0 ≤ (k : Int) ∧ (k : Int) < a.length := by omega
    have h2 : 0 ≤ (k : Int) ∧ (k : Int) < b.length := by omega
    have i2 : InI64 ((k : Int) + 1) := by unfold InI64; omega
    rw [List.drop_eq_getElem_cons ha', List.drop_eq_getElem_cons hb'] at hb
    simp only [VCA, simprocAttr, encL, MCA, ha', hb', h1, h2, txt_eq]
    cases b1 : decide (a[k] = b[k]) <;> simp only [VCA, simprocAttr, encL, MCA, b1, i2]
    · have : decide (a = b) = false := by
        rw [← hb]
        exact decide_eq_false (by intro e; injection e with e1; exact of_decide_eq_false b1 e1)
      rw [this]
    · refine backTo_of (k + 1, _) ⟨ha', ?_⟩ (by simp only []; omega) (ent_of _ [] rfl rfl (by simp only [VCA, simprocAttr, encL, MCA]))
      have e := of_decide_eq_true b1
      rw [← hb, e, Bool.eq_iff_iff, decide_eq_true_eq, decide_eq_true_eq]
      exact ⟨fun q => congrArg _ q, fun q => by injection q⟩
  · have hk' : k = a.length := by omega
    subst hk'
    rw [List.drop_length, hab, List.drop_length] at hb
    simp only [VCA, simprocAttr, encL, MCA, ← hb]

theorem ls_tk (n : Nat) : ∀ (l : List ByteArray), (l.flatMap cS).take n = (l.take n).flatMap cS := by
  induction n with
  | zero => intro l; simp
  | succ n ih => intro l; cases l with
    | nil => simp
    | cons x l => simp only [List.flatMap_cons, cS, List.take_succ_cons, List.singleton_append]; rw [ih]
theorem pref_ret (a b : MPath) (ha : a.steps.length ≤ 4611686018427387904) : PRet Tryz.prog 30 [.agg a.cells, .agg b.cells] (.bool (prefS a b)) := by
  refine pret_intro fdg30 (by simp) ?_
  simp only [lcg30, VCA, simprocAttr, encL, MCA]
  cases b1 : decide (a.loc = b.loc) <;> simp only [VCA, simprocAttr, encL, MCA, b1]
  · rw [prefS, b1, Bool.false_and]
  cases b2 : decide ((a.steps.length : Int) ≤ b.steps.length) <;> simp only [VCA, simprocAttr, encL, MCA, b2]
  · have : decide (a.steps.length ≤ b.steps.length) = false := decide_eq_false (by have := of_decide_eq_false b2; omega)
    rw [prefS, this]; simp
  have hle : a.steps.length ≤ b.steps.length := by have := of_decide_eq_true b2; omega
  have hlen : (b.steps.take a.steps.length).length = a.steps.length := by simp; omega
  have h := equalS_ret a.steps (b.steps.take a.steps.length) (by omega)
  simp only [encL, hlen] at h
  rw [ls_tk]
  refine And.intro ⟨by omega, by omega, by omega⟩ ?_
  refine callV_of h (.inl rfl) ?_
  have b3 : decide (a.steps.length ≤ b.steps.length) = true := decide_eq_true hle
  simp only [VCA, simprocAttr, encL, MCA]
  rw [prefS, b1, b3, Bool.true_and, Bool.true_and]

theorem textsS_ret (a b : List ByteArray) (ha : a.length ≤ 4611686018427387904) : PRet Tryz.prog 56 [encL cS a, encL cS b] (.bool (decide (a = b))) := by
  refine pret_intro fdg56 (by simp) ?_
  simp only [lcg56, VCA, simprocAttr, encL, MCA]
  cases b0 : decide ((a.length : Int) = b.length) <;> simp only [VCA, simprocAttr, encL, MCA, b0]
  · have : decide (a = b) = false := decide_eq_false (by rintro rfl; simp at b0)
    rw [this]
  have hab : a.length = b.length := by have := of_decide_eq_true b0; omega
  refine loop_vcg (ι := Nat × (Nat → Nat)) (fun (k, c) => stO [(0, .val (encL cS a)), (1, .val (encL cS b)), (5, .val (.int .i64 k))] c)
    (fun (k, _) => k ≤ a.length ∧ decide (a.drop k = b.drop k) = decide (a = b)) (fun (k, _) => a.length - k) (0, _) ⟨Nat.zero_le _, rfl⟩ (ent_of _ [] rfl rfl (by simp only [VCA, simprocAttr, encL, MCA])) ?_
  rintro ⟨k, c⟩ hk
  obtain ⟨hk, hb⟩ : k ≤ a.length ∧ decide (a.drop k = b.drop k) = decide (a = b) := hk
  simp only [VCA, simprocAttr, encL, MCA]
  refine condD_of (fun h => ?_) (fun h => ?_)
  · have ha' : k < a.length := by omega
    have hb' : k < b.length := by omega
    have h1 : 0 ≤ (k : Int) ∧ (k : Int) < a.length := by omega
    have h2 : 0 ≤ (k : Int) ∧ (k : Int) < b.length := by omega
    have i2 : InI64 ((k : Int) + 1) := by unfold InI64; omega
    rw [List.drop_eq_getElem_cons ha', List.drop_eq_getElem_cons hb'] at hb
    simp only [VCA, simprocAttr, encL, MCA, ha', hb', h1, h2, txt_eq]
    cases b1 : decide (a[k] = b[k]) <;> simp only [VCA, simprocAttr, encL, MCA, b1, i2]
    · have : decide (a = b) = false := by
        rw [← hb]
        exact decide_eq_false (by intro e; injection e with e1; exact of_decide_eq_false b1 e1)
      rw [this]
    · refine backTo_of (k + 1, _) ⟨ha', ?_⟩ (by simp only []; omega) (ent_of _ [] rfl rfl (by simp only [VCA, simprocAttr, encL, MCA]))
      have e := of_decide_eq_true b1
      rw [← hb, e, Bool.eq_iff_iff, decide_eq_true_eq, decide_eq_true_eq]
      exact ⟨fun q => congrArg _ q, fun q => by injection q⟩
  · have hk' : k = a.length := by omega
    subst hk'
    rw [List.drop_length, hab, List.drop_length] at hb
    simp only [VCA, simprocAttr, encL, MCA, ← hb]
theorem path16_ret (a b : MPath) (ha : a.steps.length ≤ 4611686018427387904) : PRet Tryz.prog 27 [.agg a.cells, .agg b.cells] (.bool (decide (a = b))) := by
  refine pret_intro fdg27 (by simp) ?_
  simp only [lcg27, VCA, simprocAttr, encL, MCA]
  have he : decide (a = b) = (decide (a.loc = b.loc) && decide (a.steps = b.steps)) := by
    rw [Bool.eq_iff_iff, Bool.and_eq_true, decide_eq_true_eq, decide_eq_true_eq, decide_eq_true_eq]
    exact ⟨fun h => by rw [h]; exact ⟨rfl, rfl⟩, fun h => path_ext h.1 h.2⟩
  rw [he]
  cases b1 : decide (a.loc = b.loc) <;> simp only [VCA, simprocAttr, encL, MCA, b1, Bool.false_and, Bool.true_and]
  refine callX_of (textsS_ret a.steps b.steps ha) (.inr rfl) ?_
  simp only [VCA, simprocAttr, encL, MCA]
theorem paths_ret (a b : List MPath) (hl : a.length ≤ 4611686018427387904) (ha : ∀ x ∈ a, x.steps.length ≤ 4611686018427387904) : PRet Tryz.prog 10 [encL MPath.cells a, encL MPath.cells b] (.bool (decide (a = b))) := by
  refine pret_intro fdg10 (by simp) ?_
  simp only [lcg10, VCA, simprocAttr, encL, MCA]
  cases b0 : decide ((a.length : Int) = b.length) <;> simp only [VCA, simprocAttr, encL, MCA, b0]
  · have : decide (a = b) = false := decide_eq_false (by rintro rfl; simp at b0)
    rw [this]
  have hab : a.length = b.length := by have := of_decide_eq_true b0; omega
  refine loop_vcg (ι := Nat × (Nat → Nat)) (fun (k, c) => stO [(0, .val (encL MPath.cells a)), (1, .val (encL MPath.cells b)), (5, .val (.int .i64 k))] c)
    (fun (k, _) => k ≤ a.length ∧ decide (a.drop k = b.drop k) = decide (a = b)) (fun (k, _) => a.length - k) (0, _) ⟨Nat.zero_le _, rfl⟩ (ent_of _ [] rfl rfl (by simp only [VCA, simprocAttr, encL, MCA])) ?_
  rintro ⟨k, c⟩ hk
  obtain ⟨hk, hb⟩ : k ≤ a.length ∧ decide (a.drop k = b.drop k) = decide (a = b) := hk
  simp only [VCA, simprocAttr, encL, MCA]
  refine condD_of (fun h => ?_) (fun h => ?_)
  · have ha' : k < a.length := by omega
    have hb' : k < b.length := by omega
    have h1 : 0 ≤ (k : Int) ∧ (k : Int) < a.length := by omega
    have h2 : 0 ≤ (k : Int) ∧ (k : Int) < b.length := by omega
    have i2 : InI64 ((k : Int) + 1) := by unfold InI64; omega
    rw [List.drop_eq_getElem_cons ha', List.drop_eq_getElem_cons hb'] at hb
    simp only [VCA, simprocAttr, encL, MCA, ha', hb', h1, h2]
    refine callV_of (path16_ret a[k] b[k] (ha _ (List.getElem_mem ha'))) (.inr rfl) ?_
    simp only [VCA, simprocAttr, encL, MCA]
    cases b1 : decide (a[k] = b[k]) <;> simp only [VCA, simprocAttr, encL, MCA, b1, i2]
    · have : decide (a = b) = false := by
        rw [← hb]
        exact decide_eq_false (by intro e; injection e with e1; exact of_decide_eq_false b1 e1)
      rw [this]
    · refine backTo_of (k + 1, _) ⟨ha', ?_⟩ (by simp only []; omega) (ent_of _ [] rfl rfl (by simp only [VCA, simprocAttr, encL, MCA]))
      have e := of_decide_eq_true b1
      rw [← hb, e, Bool.eq_iff_iff, decide_eq_true_eq, decide_eq_true_eq]
      exact ⟨fun q => congrArg _ q, fun q => by injection q⟩
  · have hk' : k = a.length := by omega
    subst hk'
    rw [List.drop_length, hab, List.drop_length] at hb
    simp only [VCA, simprocAttr, encL, MCA, ← hb]

theorem pref16_ret (a b : MPath) (ha : a.steps.length ≤ 4611686018427387904) : PRet Tryz.prog 17 [.agg a.cells, .agg b.cells] (.bool (prefS a b)) := by
  refine pret_intro fdg17 (by simp) ?_
  simp only [lcg17, VCA, simprocAttr, encL, MCA]
  cases b1 : decide (a.loc = b.loc) <;> simp only [VCA, simprocAttr, encL, MCA, b1]
  · rw [prefS, b1, Bool.false_and]
  cases b2 : decide ((b.steps.length : Int) < a.steps.length) <;> simp only [VCA, simprocAttr, encL, MCA, b2]
  case true =>
    have : decide (a.steps.length ≤ b.steps.length) = false := decide_eq_false (by have := of_decide_eq_true b2; omega)
    rw [prefS, this]; simp
  have hle : a.steps.length ≤ b.steps.length := by have := of_decide_eq_false b2; omega
  have hp : prefS a b = decide (a.steps = b.steps.take a.steps.length) := by
    rw [prefS, b1, decide_eq_true hle, Bool.true_and, Bool.true_and]
  rw [hp]
  refine loop_vcg (ι := Nat × (Nat → Nat)) (fun (k, c) => stO [(2, .box a.cells), (3, .box b.cells), (5, .val (.int .i64 k))] c)
    (fun (k, _) => k ≤ a.steps.length ∧ decide (a.steps.drop k = (b.steps.take a.steps.length).drop k) = decide (a.steps = b.steps.take a.steps.length)) (fun (k, _) => a.steps.length - k) (0, _) ⟨Nat.zero_le _, rfl⟩ (ent_of _ [] rfl rfl (by simp only [VCA, simprocAttr, encL, MCA])) ?_
  rintro ⟨k, c⟩ hk
  obtain ⟨hk, hb⟩ : k ≤ a.steps.length ∧ decide (a.steps.drop k = (b.steps.take a.steps.length).drop k) = decide (a.steps = b.steps.take a.steps.length) := hk
  simp only [VCA, simprocAttr, encL, MCA]
  refine condD_of (fun h => ?_) (fun h => ?_)
  · have ha' : k < a.steps.length := by omega
    have hb' : k < b.steps.length := by omega
    have hb2 : k < (b.steps.take a.steps.length).length := by simp; omega
    have h1 : 0 ≤ (k : Int) ∧ (k : Int) < a.steps.length := by omega
    have h2 : 0 ≤ (k : Int) ∧ (k : Int) < b.steps.length := by omega
    have i2 : InI64 ((k : Int) + 1) := by unfold InI64; omega
    rw [List.drop_eq_getElem_cons ha', List.drop_eq_getElem_cons hb2, List.getElem_take] at hb
    simp only [VCA, simprocAttr, encL, MCA, ha', hb', h1, h2, txt_eq]
    cases b1 : decide (a.steps[k] = b.steps[k]) <;> simp only [VCA, simprocAttr, encL, MCA, b1, i2]
    · have : decide (a.steps = b.steps.take a.steps.length) = false := by
        rw [← hb]
        exact decide_eq_false (by intro e; injection e with e1; exact of_decide_eq_false b1 e1)
      rw [this]
    · refine backTo_of (k + 1, _) ⟨ha', ?_⟩ (by simp only []; omega) (ent_of _ [] rfl rfl (by simp only [VCA, simprocAttr, encL, MCA]))
      have e := of_decide_eq_true b1
      rw [← hb, e, Bool.eq_iff_iff, decide_eq_true_eq, decide_eq_true_eq]
      exact ⟨fun q => congrArg _ q, fun q => by injection q⟩
  · have hk' : k = a.steps.length := by omega
    subst hk'
    rw [List.drop_length, List.drop_eq_nil_of_le (by simp; omega)] at hb
    simp only [VCA, simprocAttr, encL, MCA, ← hb]
end Go.Proofs.YtlkdcgfjmhjjpaaGreat

set_option linter.unusedSimpArgs false
set_option linter.unusedVariables false
namespace Go.Proofs.YtlkdcgfjmhjjpaaGreat
open Go Go.Lg Go.RowKit
set_option linter.unusedVariables false
set_option linter.unusedSimpArgs false

def cmpB (a b : ByteArray) : Int := if Op.bytesLess a.toList b.toList = true then -1 else if a = b then 0 else 1
theorem nan_ret (a : ByteArray) : PRet Tryz.prog 111 [.str a] (.bool false) := by
  refine pret_intro fdg111 (by simp) ?_
  simp only [lcg111, VCA, simprocAttr, encL, MCA, txt_eq, decide_true, Bool.not_true]
theorem cmpS_ret (a b : ByteArray) : PRet Tryz.prog 96 [.str a, .str b] (.int .i64 (cmpB a b)) := by
  refine pret_intro fdg96 (by simp) ?_
  simp only [lcg96, VCA, simprocAttr, encL, MCA]
  refine callX_of (nan_ret a) (.inr rfl) ?_
  simp only [VCA, simprocAttr, encL, MCA]
  refine callX_of (nan_ret b) (.inr rfl) ?_
  simp only [VCA, simprocAttr, encL, MCA]
  unfold cmpB
  cases b1 : Op.bytesLess a.toList b.toList <;> simp only [VCA, simprocAttr, encL, MCA, b1, Bool.false_or, txt_eq]
  cases b2 : decide (a = b) <;> simp only [VCA, simprocAttr, encL, MCA, b2]
  · rw [if_neg (of_decide_eq_false b2)]
  · rw [if_pos (of_decide_eq_true b2)]

def cmpL : List ByteArray → List ByteArray → Int
  | [], [] => 0
  | [], _ :: _ => -1
  | _ :: _, [] => 1
  | x :: l, y :: m => if cmpB x y = 0 then cmpL l m else cmpB x y
theorem cmpB_z {a b : ByteArray} : cmpB a b = 0 ↔ a = b := by
  unfold cmpB
  split
  · rename_i h
    constructor
    · intro e; cases e
    · rintro rfl; rw [bl_irrefl] at h; cases h
  · split
    · rename_i h; simp [h]
    · rename_i h; simp [h]
theorem cmpL_lt : ∀ (a b : List ByteArray), decide (cmpL a b < 0) = lexB a b
  | [], [] => rfl
  | [], y :: m => by rw [lexB_nc]; rfl
  | x :: l, [] => by rw [lexB_cn]; rfl
  | x :: l, y :: m => by
    rw [lexB_cc, cmpL]
    by_cases e : x = y
    · rw [if_pos (cmpB_z.2 e), if_pos e]; exact cmpL_lt l m
    · rw [if_neg (fun h => e (cmpB_z.1 h)), if_neg e, cmpB]
      cases b1 : Op.bytesLess x.toList y.toList
      · rw [if_neg (by decide), if_neg e]; rfl
      · rw [if_pos rfl]; rfl
theorem compareS_ret (a b : List ByteArray) (ha : a.length ≤ 4611686018427387904) : PRet Tryz.prog 73 [encL cS a, encL cS b] (.int .i64 (cmpL a b)) := by
  refine pret_intro fdg73 (by simp) ?_
  simp only [lcg73, VCA, simprocAttr, encL, MCA]
  refine loop_vcg (ι := Nat × (Nat → Nat)) (fun (k, c) => stO [(0, .val (encL cS a)), (1, .val (encL cS b)), (9, .val (encL cS a)), (10, .val (.int .i64 a.length)), (11, .val (.int .i64 k))] c)
    (fun (k, _) => k ≤ a.length ∧ k ≤ b.length ∧ cmpL (a.drop k) (b.drop k) = cmpL a b) (fun (k, _) => a.length - k) (0, _) ⟨Nat.zero_le _, Nat.zero_le _, rfl⟩ (ent_of _ [] rfl rfl (by simp only [VCA, simprocAttr, encL, MCA])) ?_
  rintro ⟨k, c⟩ hk
  obtain ⟨hk, hkb, hb⟩ : k ≤ a.length ∧ k ≤ b.length ∧ cmpL (a.drop k) (b.drop k) = cmpL a b := hk
  simp only [VCA, simprocAttr, encL, MCA]
  refine condD_of (fun h => ?_) (fun h => ?_)
  · have ha' : k < a.length := by omega
    have h1 : 0 ≤ (k : Int) ∧ (k : Int) < a.length := by omega
    have i2 : InI64 ((k : Int) + 1) := by unfold InI64; omega
    rw [List.drop_eq_getElem_cons ha'] at hb
    simp only [VCA, simprocAttr, encL, MCA, ha', h1]
    cases b0 : decide ((b.length : Int) ≤ k) <;> simp only [VCA, simprocAttr, encL, MCA, b0]
    case true =>
      have hd : b.drop k = [] := List.drop_eq_nil_of_le (by have := of_decide_eq_true b0; omega)
      rw [hd] at hb
      rw [← hb]; rfl
    have hb' : k < b.length := by have := of_decide_eq_false b0; omega
    have h2 : 0 ≤ (k : Int) ∧ (k : Int) < b.length := by omega
    rw [List.drop_eq_getElem_cons hb', cmpL] at hb
    simp only [VCA, simprocAttr, encL, MCA, hb', h2]
    refine callX_of (cmpS_ret a[k] b[k]) (.inr rfl) ?_
    simp only [VCA, simprocAttr, encL, MCA]
    cases b1 : decide (cmpB a[k] b[k] = 0) <;> simp only [VCA, simprocAttr, encL, MCA, b1, i2]
    · rw [if_neg (of_decide_eq_false b1)] at hb
      rw [← hb]
    · rw [if_pos (of_decide_eq_true b1)] at hb
      exact backTo_of (k + 1, _) ⟨ha', hb', hb⟩ (by simp only []; omega) (ent_of _ [] rfl rfl (by simp only [VCA, simprocAttr, encL, MCA]))
  · have hk' : k = a.length := by omega
    subst hk'
    rw [List.drop_length] at hb
    cases b0 : decide ((a.length : Int) < b.length) <;> simp only [VCA, simprocAttr, encL, MCA, b0]
    · have : b.drop a.length = [] := List.drop_eq_nil_of_le (by have := of_decide_eq_false b0; omega)
      rw [this] at hb; rw [← hb]; rfl
    · have : a.length < b.length := by have := of_decide_eq_true b0; omega
      rw [List.drop_eq_getElem_cons this] at hb; rw [← hb]; rfl

theorem less_ret (a b : MPath) (ha : a.steps.length ≤ 4611686018427387904) : PRet Tryz.prog 61 [.agg a.cells, .agg b.cells] (.bool (ltP a b)) := by
  refine pret_intro fdg61 (by simp) ?_
  simp only [lcg61, VCA, simprocAttr, encL, MCA]
  rw [ltP_eq]
  cases b1 : decide (a.loc = b.loc) <;> simp only [VCA, simprocAttr, encL, MCA, b1]
  · rw [if_neg (of_decide_eq_false b1)]
  rw [if_pos (of_decide_eq_true b1)]
  refine callX_of (compareS_ret a.steps b.steps ha) (.inr rfl) ?_
  simp only [VCA, simprocAttr, encL, MCA, cmpL_lt]

/-- What the sorting asks. -/
def cmpP (a b : MPath) : Int := if ltP a b = true then -1 else if ltP b a = true then 1 else 0
theorem sorted1_ret (a b : MPath) (ha : a.steps.length ≤ 4611686018427387904) (hb : b.steps.length ≤ 4611686018427387904) : PRet Tryz.prog 60 [.agg a.cells, .agg b.cells] (.int .i64 (cmpP a b)) := by
  refine pret_intro fdg60 (by simp) ?_
  simp only [lcg60, VCA, simprocAttr, encL, MCA]
  refine callX_of (less_ret a b ha) (.inr rfl) ?_
  unfold cmpP
  cases b1 : ltP a b <;> simp only [VCA, simprocAttr, encL, MCA, b1]
  · refine callX_of (less_ret b a hb) (.inr rfl) ?_
    cases b2 : ltP b a <;> simp only [VCA, simprocAttr, encL, MCA, b2]

theorem less16_ret (a b : MPath) (ha : a.steps.length ≤ 4611686018427387904) : PRet Tryz.prog 18 [.agg a.cells, .agg b.cells] (.bool (ltP a b)) := by
  refine pret_intro fdg18 (by simp) ?_
  simp only [lcg18, VCA, simprocAttr, encL, MCA]
  rw [ltP_eq]
  cases b1 : decide (a.loc = b.loc) <;> simp only [VCA, simprocAttr, encL, MCA, b1]
  · rw [if_neg (of_decide_eq_false b1)]
  rw [if_pos (of_decide_eq_true b1)]
  refine loop_vcg (ι := Nat × (Nat → Nat)) (fun (k, c) => stO [(2, .box a.cells), (3, .box b.cells), (5, .val (.int .i64 k))] c)
    (fun (k, _) => k ≤ a.steps.length ∧ k ≤ b.steps.length ∧ lexB (a.steps.drop k) (b.steps.drop k) = lexB a.steps b.steps) (fun (k, _) => a.steps.length - k) (0, _) ⟨Nat.zero_le _, Nat.zero_le _, rfl⟩ (ent_of _ [] rfl rfl (by simp only [VCA, simprocAttr, encL, MCA])) ?_
  rintro ⟨k, c⟩ hk
  obtain ⟨hk, hkb, hb⟩ : k ≤ a.steps.length ∧ k ≤ b.steps.length ∧ lexB (a.steps.drop k) (b.steps.drop k) = lexB a.steps b.steps := hk
  simp only [VCA, simprocAttr, encL, MCA]
  cases c1 : decide ((k : Int) < a.steps.length) <;> simp only [VCA, simprocAttr, encL, MCA, c1]
  · have hk' : k = a.steps.length := by have := of_decide_eq_false c1; omega
    subst hk'
    rw [List.drop_length, lexB_nl] at hb
    have e : decide ((a.steps.length : Int) < b.steps.length) = decide (0 < (b.steps.drop a.steps.length).length) := by
      rw [Bool.eq_iff_iff, decide_eq_true_eq, decide_eq_true_eq, List.length_drop]; omega
    rw [← hb, ← e]
  cases c2 : decide ((k : Int) < b.steps.length) <;> simp only [VCA, simprocAttr, encL, MCA, c2]
  · have hk' : k = b.steps.length := by have := of_decide_eq_false c2; omega
    have ha' : k < a.steps.length := by have := of_decide_eq_true c1; omega
    subst hk'
    rw [List.drop_length, List.drop_eq_getElem_cons ha', lexB_cn] at hb
    rw [← hb]
    congr 2
    rw [Bool.eq_iff_iff, decide_eq_true_eq]; simp; omega
  have ha' : k < a.steps.length := by have := of_decide_eq_true c1; omega
  have hb' : k < b.steps.length := by have := of_decide_eq_true c2; omega
  have h1 : 0 ≤ (k : Int) ∧ (k : Int) < a.steps.length := by omega
  have h2 : 0 ≤ (k : Int) ∧ (k : Int) < b.steps.length := by omega
  have i2 : InI64 ((k : Int) + 1) := by unfold InI64; omega
  rw [List.drop_eq_getElem_cons ha', List.drop_eq_getElem_cons hb', lexB_cc] at hb
  simp only [VCA, simprocAttr, encL, MCA, ha', hb', h1, h2, txt_eq]
  cases b1 : decide (a.steps[k] = b.steps[k]) <;> simp only [VCA, simprocAttr, encL, MCA, b1, i2, ha', hb', h1, h2]
  · rw [if_neg (of_decide_eq_false b1)] at hb
    rw [← hb]
  · rw [if_pos (of_decide_eq_true b1)] at hb
    exact backTo_of (k + 1, _) ⟨ha', hb', hb⟩ (by simp only []; omega) (ent_of _ [] rfl rfl (by simp only [VCA, simprocAttr, encL, MCA]))
end Go.Proofs.YtlkdcgfjmhjjpaaGreat
