/-
  Texts LgV, LgR, LgS, MirA, MirB, MirC, LgW of this claim, put together.
-/
import Derived.Test.YtobhpkagbmadlaaGD
import GoSem.ClaimChange
import Derived.ChangeArms
import Derived.OpenShut
import Derived.Lib.SmallJoins
import Derived.Test.YtobhpkagbmadlaaProg
/-
  The rewriting rules of the plain logic in one theorem (printed by gen_vc.sh).
-/
set_option linter.unusedSimpArgs false
set_option linter.unusedVariables false
namespace Go.Lg
open Go Go.RowKit

theorem VC0 : type_of% @Go.Lg.vcg_skip ∧
  type_of% @Go.Lg.vcg_reg ∧
  type_of% @Go.Lg.vcg_rego ∧
  type_of% @Go.Lg.vcg_seq ∧
  type_of% @Go.Lg.vcg_cond ∧
  type_of% @Go.Lg.vcg_block ∧
  type_of% @Go.Lg.vcg_loop ∧
  type_of% @Go.Lg.vcg_exit ∧
  type_of% @Go.Lg.vcg_ret ∧
  type_of% @Go.Lg.vcg_bad ∧
  type_of% @Go.Lg.vcg_keep ∧
  type_of% @Go.Lg.St.keep.eq_1 ∧
  type_of% @Go.Lg.keepL.eq_1 ∧
  type_of% @Go.Lg.keepL.eq_2 ∧
  type_of% @Go.Lg.vops_nil ∧
  type_of% @Go.Lg.vops_cons ∧
  type_of% @Go.Lg.vopsM_nil ∧
  type_of% @Go.Lg.vopsM_cons ∧
  type_of% @Go.Lg.thenQ_normal ∧
  type_of% @Go.Lg.thenQ_exit ∧
  type_of% @Go.Lg.thenQ_ret ∧
  type_of% @Go.Lg.blockQ_normal ∧
  type_of% @Go.Lg.blockQ_exit ∧
  type_of% @Go.Lg.blockQ_ret ∧
  type_of% @Go.Lg.retK_normal ∧
  type_of% @Go.Lg.retK_ret ∧
  type_of% @Go.Lg.some_ex ∧
  type_of% @Go.Lg.vstep_none ∧
  type_of% @Go.Lg.vstep_some ∧
  type_of% @Go.Lg.vguard_bool ∧
  type_of% @Go.Lg.vguard_skip ∧
  type_of% @Go.Lg.vguardM_skip ∧
  type_of% @Go.Lg.gdV_true ∧
  type_of% @Go.Lg.gdV_false ∧
  type_of% @Go.Lg.vstepM_none ∧
  type_of% @Go.Lg.vstepM_some ∧
  type_of% @Go.Lg.vguardM_bool ∧
  type_of% @Go.Lg.gdVM_true ∧
  type_of% @Go.Lg.gdVM_false ∧
  type_of% @Go.Lg.vresM_A ∧
  type_of% @Go.Lg.vresM_C ∧
  type_of% @Go.Lg.vresM_D ∧
  type_of% @Go.Lg.vresM_call ∧
  type_of% @Go.Lg.vresM_bad ∧
  type_of% @Go.Lg.vres_A ∧
  type_of% @Go.Lg.vres_C ∧
  type_of% @Go.Lg.vres_D ∧
  type_of% @Go.Lg.vres_call ∧
  type_of% @Go.Lg.vres_bad ∧
  type_of% @Go.Lg.condV_true ∧
  type_of% @Go.Lg.condV_false ∧
  type_of% @Go.Lg.ofOpt_some ∧
  type_of% @Go.Lg.lop.eq_1 ∧
  type_of% @Go.Lg.lop.eq_2 ∧
  type_of% @Go.Lg.lop.eq_3 ∧
  type_of% @Go.Lg.lop.eq_4 ∧
  type_of% @Go.Lg.lop.eq_5 ∧
  type_of% @Go.Lg.lop.eq_6 ∧
  type_of% @Go.Lg.lop.eq_7 ∧
  type_of% @Go.Lg.lop.eq_8 :=
  ⟨@Go.Lg.vcg_skip, @Go.Lg.vcg_reg, @Go.Lg.vcg_rego, @Go.Lg.vcg_seq, @Go.Lg.vcg_cond, @Go.Lg.vcg_block, @Go.Lg.vcg_loop, @Go.Lg.vcg_exit, @Go.Lg.vcg_ret, @Go.Lg.vcg_bad, @Go.Lg.vcg_keep, @Go.Lg.St.keep.eq_1, @Go.Lg.keepL.eq_1, @Go.Lg.keepL.eq_2, @Go.Lg.vops_nil, @Go.Lg.vops_cons, @Go.Lg.vopsM_nil, @Go.Lg.vopsM_cons, @Go.Lg.thenQ_normal, @Go.Lg.thenQ_exit, @Go.Lg.thenQ_ret, @Go.Lg.blockQ_normal, @Go.Lg.blockQ_exit, @Go.Lg.blockQ_ret, @Go.Lg.retK_normal, @Go.Lg.retK_ret, @Go.Lg.some_ex, @Go.Lg.vstep_none, @Go.Lg.vstep_some, @Go.Lg.vguard_bool, @Go.Lg.vguard_skip, @Go.Lg.vguardM_skip, @Go.Lg.gdV_true, @Go.Lg.gdV_false, @Go.Lg.vstepM_none, @Go.Lg.vstepM_some, @Go.Lg.vguardM_bool, @Go.Lg.gdVM_true, @Go.Lg.gdVM_false, @Go.Lg.vresM_A, @Go.Lg.vresM_C, @Go.Lg.vresM_D, @Go.Lg.vresM_call, @Go.Lg.vresM_bad, @Go.Lg.vres_A, @Go.Lg.vres_C, @Go.Lg.vres_D, @Go.Lg.vres_call, @Go.Lg.vres_bad, @Go.Lg.condV_true, @Go.Lg.condV_false, @Go.Lg.ofOpt_some, @Go.Lg.lop.eq_1, @Go.Lg.lop.eq_2, @Go.Lg.lop.eq_3, @Go.Lg.lop.eq_4, @Go.Lg.lop.eq_5, @Go.Lg.lop.eq_6, @Go.Lg.lop.eq_7, @Go.Lg.lop.eq_8⟩

theorem VC1 : type_of% @Go.Lg.lop.eq_9 ∧
  type_of% @Go.Lg.lop.eq_10 ∧
  type_of% @Go.Lg.lop.eq_11 ∧
  type_of% @Go.Lg.lop.eq_12 ∧
  type_of% @Go.Lg.lop.eq_13 ∧
  type_of% @Go.Lg.lop.eq_14 ∧
  type_of% @Go.Lg.lop.eq_15 ∧
  type_of% @Go.Lg.lop.eq_16 ∧
  type_of% @Go.Lg.lop.eq_17 ∧
  type_of% @Go.Lg.lop.eq_18 ∧
  type_of% @Go.Lg.lop.eq_19 ∧
  type_of% @Go.Lg.lop.eq_20 ∧
  type_of% @Go.Lg.lop.eq_21 ∧
  type_of% @Go.Lg.lop.eq_22 ∧
  type_of% @Go.Lg.lop.eq_23 ∧
  type_of% @Go.Lg.lop.eq_24 ∧
  type_of% @Go.Lg.lop.eq_25 ∧
  type_of% @Go.Lg.lop.eq_26 ∧
  type_of% @Go.Lg.lop.eq_27 ∧
  type_of% @Go.Lg.lop.eq_28 ∧
  type_of% @Go.Lg.lop.eq_29 ∧
  type_of% @Go.Lg.lop.eq_30 ∧
  type_of% @Go.Lg.lop.eq_31 ∧
  type_of% @Go.Lg.lop.eq_32 ∧
  type_of% @Go.Lg.lop.eq_33 ∧
  type_of% @Go.Lg.lop.eq_34 ∧
  type_of% @Go.Lg.lop.eq_35 ∧
  type_of% @Go.Lg.lop.eq_36 ∧
  type_of% @Go.Lg.lop.eq_37 ∧
  type_of% @Go.Lg.lop.eq_38 ∧
  type_of% @Go.Lg.lop.eq_39 ∧
  type_of% @Go.Lg.lop.eq_40 ∧
  type_of% @Go.Lg.lop.eq_41 ∧
  type_of% @Go.Lg.lop.eq_42 ∧
  type_of% @Go.Lg.lop.eq_43 ∧
  type_of% @Go.Lg.lop.eq_44 ∧
  type_of% @Go.Lg.lop.eq_45 ∧
  type_of% @Go.Lg.lop.eq_46 ∧
  type_of% @Go.Lg.lop.eq_47 ∧
  type_of% @Go.Lg.lop.eq_48 ∧
  type_of% @Go.Lg.Rd.get.eq_1 ∧
  type_of% @Go.Lg.Rd.get.eq_2 ∧
  type_of% @Go.Lg.lbin.eq_1 ∧
  type_of% @Go.Lg.lbin.eq_2 ∧
  type_of% @Go.Lg.lbin.eq_3 ∧
  type_of% @Go.Lg.lbin.eq_4 ∧
  type_of% @Go.Lg.lbin.eq_5 ∧
  type_of% @Go.Lg.lbin.eq_6 ∧
  type_of% @Go.Lg.lbin.eq_7 ∧
  type_of% @Go.Lg.lbin.eq_8 ∧
  type_of% @Go.Lg.lbin.eq_9 ∧
  type_of% @Go.Lg.lbin.eq_10 ∧
  type_of% @Go.Lg.lbin.eq_11 ∧
  type_of% @Go.Lg.lbin.eq_12 ∧
  type_of% @Go.Lg.lbin.eq_13 ∧
  type_of% @Go.Lg.lbin.eq_14 ∧
  type_of% @Go.Lg.lbin.eq_15 ∧
  type_of% @Go.Lg.lbin.eq_16 ∧
  type_of% @Go.Lg.lbin.eq_17 ∧
  type_of% @Go.Lg.lbin.eq_18 :=
  ⟨@Go.Lg.lop.eq_9, @Go.Lg.lop.eq_10, @Go.Lg.lop.eq_11, @Go.Lg.lop.eq_12, @Go.Lg.lop.eq_13, @Go.Lg.lop.eq_14, @Go.Lg.lop.eq_15, @Go.Lg.lop.eq_16, @Go.Lg.lop.eq_17, @Go.Lg.lop.eq_18, @Go.Lg.lop.eq_19, @Go.Lg.lop.eq_20, @Go.Lg.lop.eq_21, @Go.Lg.lop.eq_22, @Go.Lg.lop.eq_23, @Go.Lg.lop.eq_24, @Go.Lg.lop.eq_25, @Go.Lg.lop.eq_26, @Go.Lg.lop.eq_27, @Go.Lg.lop.eq_28, @Go.Lg.lop.eq_29, @Go.Lg.lop.eq_30, @Go.Lg.lop.eq_31, @Go.Lg.lop.eq_32, @Go.Lg.lop.eq_33, @Go.Lg.lop.eq_34, @Go.Lg.lop.eq_35, @Go.Lg.lop.eq_36, @Go.Lg.lop.eq_37, @Go.Lg.lop.eq_38, @Go.Lg.lop.eq_39, @Go.Lg.lop.eq_40, @Go.Lg.lop.eq_41, @Go.Lg.lop.eq_42, @Go.Lg.lop.eq_43, @Go.Lg.lop.eq_44, @Go.Lg.lop.eq_45, @Go.Lg.lop.eq_46, @Go.Lg.lop.eq_47, @Go.Lg.lop.eq_48, @Go.Lg.Rd.get.eq_1, @Go.Lg.Rd.get.eq_2, @Go.Lg.lbin.eq_1, @Go.Lg.lbin.eq_2, @Go.Lg.lbin.eq_3, @Go.Lg.lbin.eq_4, @Go.Lg.lbin.eq_5, @Go.Lg.lbin.eq_6, @Go.Lg.lbin.eq_7, @Go.Lg.lbin.eq_8, @Go.Lg.lbin.eq_9, @Go.Lg.lbin.eq_10, @Go.Lg.lbin.eq_11, @Go.Lg.lbin.eq_12, @Go.Lg.lbin.eq_13, @Go.Lg.lbin.eq_14, @Go.Lg.lbin.eq_15, @Go.Lg.lbin.eq_16, @Go.Lg.lbin.eq_17, @Go.Lg.lbin.eq_18⟩

theorem VC2 : type_of% @Go.Lg.lbin.eq_19 ∧
  type_of% @Go.Lg.lbin.eq_20 ∧
  type_of% @Go.Lg.lbin.eq_21 ∧
  type_of% @Go.Lg.lbin.eq_22 ∧
  type_of% @Go.Lg.lbin.eq_23 ∧
  type_of% @Go.Lg.lbin.eq_24 ∧
  type_of% @Go.Lg.lbin.eq_25 ∧
  type_of% @Go.Lg.lbin.eq_26 ∧
  type_of% @Go.Lg.lconvI.eq_1 ∧
  type_of% @Go.Lg.lconvI.eq_2 ∧
  type_of% @Go.Lg.lload.eq_1 ∧
  type_of% @Go.Lg.lload.eq_2 ∧
  type_of% @Go.Lg.lload.eq_3 ∧
  type_of% @Go.Lg.lstore.eq_1 ∧
  type_of% @Go.Lg.lstore.eq_2 ∧
  type_of% @Go.Lg.lnil.eq_1 ∧
  type_of% @Go.Lg.lnil.eq_2 ∧
  type_of% @Go.Lg.lnil.eq_3 ∧
  type_of% @Go.Lg.leqb.eq_1 ∧
  type_of% @Go.Lg.leqb.eq_2 ∧
  type_of% @Go.Lg.leqp.eq_1 ∧
  type_of% @Go.Lg.leqp.eq_2 ∧
  type_of% @Go.Lg.leqp.eq_3 ∧
  type_of% @Go.Lg.leqp.eq_4 ∧
  type_of% @Go.Lg.leqi.eq_1 ∧
  type_of% @Go.Lg.leqi.eq_2 ∧
  type_of% @Go.Lg.leqi.eq_3 ∧
  type_of% @Go.Lg.leqi.eq_4 ∧
  type_of% @Go.Lg.lun.eq_1 ∧
  type_of% @Go.Lg.lun.eq_2 ∧
  type_of% @Go.Lg.lun.eq_3 ∧
  type_of% @Go.Lg.lun.eq_4 ∧
  type_of% @Go.Lg.lpick.eq_1 ∧
  type_of% @Go.Lg.lpick.eq_2 ∧
  type_of% @Go.Lg.lmvs.eq_1 ∧
  type_of% @Go.Lg.lmvs.eq_2 ∧
  type_of% @Go.Lg.lmksl.eq_1 ∧
  type_of% @Go.Lg.lmksl.eq_2 ∧
  type_of% @Go.Lg.lslS.eq_1 ∧
  type_of% @Go.Lg.lslSx.eq_1 ∧
  type_of% @Go.Lg.lslSx.eq_2 ∧
  type_of% @Go.Lg.lslVx.eq_1 ∧
  type_of% @Go.Lg.lsl.eq_1 ∧
  type_of% @Go.Lg.lsl.eq_2 ∧
  type_of% @Go.Lg.lslV.eq_1 ∧
  type_of% @Go.Lg.lslV.eq_2 ∧
  type_of% @Go.Lg.lslV.eq_3 ∧
  type_of% @Go.Lg.lslV.eq_4 ∧
  type_of% @Go.Lg.lslA.eq_1 ∧
  type_of% @Go.Lg.lslA.eq_2 ∧
  type_of% @Go.Lg.lslA.eq_3 ∧
  type_of% @Go.Lg.lfad.eq_1 ∧
  type_of% @Go.Lg.lfad.eq_2 ∧
  type_of% @Go.Lg.lfad.eq_3 ∧
  type_of% @Go.Lg.lfld.eq_1 ∧
  type_of% @Go.Lg.lfld.eq_2 ∧
  type_of% @Go.Lg.liaA.eq_1 ∧
  type_of% @Go.Lg.liaA.eq_2 ∧
  type_of% @Go.Lg.liaA.eq_3 ∧
  type_of% @Go.Lg.liaA.eq_4 :=
  ⟨@Go.Lg.lbin.eq_19, @Go.Lg.lbin.eq_20, @Go.Lg.lbin.eq_21, @Go.Lg.lbin.eq_22, @Go.Lg.lbin.eq_23, @Go.Lg.lbin.eq_24, @Go.Lg.lbin.eq_25, @Go.Lg.lbin.eq_26, @Go.Lg.lconvI.eq_1, @Go.Lg.lconvI.eq_2, @Go.Lg.lload.eq_1, @Go.Lg.lload.eq_2, @Go.Lg.lload.eq_3, @Go.Lg.lstore.eq_1, @Go.Lg.lstore.eq_2, @Go.Lg.lnil.eq_1, @Go.Lg.lnil.eq_2, @Go.Lg.lnil.eq_3, @Go.Lg.leqb.eq_1, @Go.Lg.leqb.eq_2, @Go.Lg.leqp.eq_1, @Go.Lg.leqp.eq_2, @Go.Lg.leqp.eq_3, @Go.Lg.leqp.eq_4, @Go.Lg.leqi.eq_1, @Go.Lg.leqi.eq_2, @Go.Lg.leqi.eq_3, @Go.Lg.leqi.eq_4, @Go.Lg.lun.eq_1, @Go.Lg.lun.eq_2, @Go.Lg.lun.eq_3, @Go.Lg.lun.eq_4, @Go.Lg.lpick.eq_1, @Go.Lg.lpick.eq_2, @Go.Lg.lmvs.eq_1, @Go.Lg.lmvs.eq_2, @Go.Lg.lmksl.eq_1, @Go.Lg.lmksl.eq_2, @Go.Lg.lslS.eq_1, @Go.Lg.lslSx.eq_1, @Go.Lg.lslSx.eq_2, @Go.Lg.lslVx.eq_1, @Go.Lg.lsl.eq_1, @Go.Lg.lsl.eq_2, @Go.Lg.lslV.eq_1, @Go.Lg.lslV.eq_2, @Go.Lg.lslV.eq_3, @Go.Lg.lslV.eq_4, @Go.Lg.lslA.eq_1, @Go.Lg.lslA.eq_2, @Go.Lg.lslA.eq_3, @Go.Lg.lfad.eq_1, @Go.Lg.lfad.eq_2, @Go.Lg.lfad.eq_3, @Go.Lg.lfld.eq_1, @Go.Lg.lfld.eq_2, @Go.Lg.liaA.eq_1, @Go.Lg.liaA.eq_2, @Go.Lg.liaA.eq_3, @Go.Lg.liaA.eq_4⟩

theorem VC3 : type_of% @Go.Lg.liaS.eq_1 ∧
  type_of% @Go.Lg.liaS.eq_2 ∧
  type_of% @Go.Lg.liaS.eq_3 ∧
  type_of% @Go.Lg.liaS.eq_4 ∧
  type_of% @Go.Lg.liaS.eq_5 ∧
  type_of% @Go.Lg.lixS.eq_1 ∧
  type_of% @Go.Lg.lixS.eq_2 ∧
  type_of% @Go.Lg.lixS.eq_3 ∧
  type_of% @Go.Lg.ltas.eq_1 ∧
  type_of% @Go.Lg.ltas.eq_2 ∧
  type_of% @Go.Lg.ltas.eq_3 ∧
  type_of% @Go.Lg.lext.eq_1 ∧
  type_of% @Go.Lg.lext.eq_2 ∧
  type_of% @Go.Lg.llen.eq_1 ∧
  type_of% @Go.Lg.llen.eq_2 ∧
  type_of% @Go.Lg.llen.eq_3 ∧
  type_of% @Go.Lg.llen.eq_4 ∧
  type_of% @Go.Lg.llen.eq_5 ∧
  type_of% @Go.Lg.llen.eq_6 ∧
  type_of% @Go.Lg.lmn.eq_1 ∧
  type_of% @Go.Lg.lmn.eq_2 ∧
  type_of% @Go.Lg.lcallv.eq_1 ∧
  type_of% @Go.Lg.lcallv.eq_2 ∧
  type_of% @Go.Lg.lappx.eq_1 ∧
  type_of% @Go.Lg.lapp.eq_1 ∧
  type_of% @Go.Lg.lapp.eq_2 ∧
  type_of% @Go.Lg.lapp.eq_3 ∧
  type_of% @Go.Lg.lenV.eq_1 ∧
  type_of% @Go.Lg.lenV.eq_2 ∧
  type_of% @Go.Lg.lenV.eq_3 ∧
  type_of% @Go.Lg.lenV.eq_4 ∧
  type_of% @Go.Lg.lenV.eq_5 ∧
  type_of% @Go.Lg.lenV.eq_6 ∧
  type_of% @Go.Lg.loOf.eq_1 ∧
  type_of% @Go.Lg.loOf.eq_2 ∧
  type_of% @Go.Lg.hiOf.eq_1 ∧
  type_of% @Go.Lg.hiOf.eq_2 ∧
  type_of% @Go.Lg.srcOf.eq_1 ∧
  type_of% @Go.Lg.srcOf.eq_2 ∧
  type_of% @Go.Lg.srcOf.eq_3 ∧
  type_of% @Go.Lg.srcOf.eq_4 ∧
  type_of% @Go.Lg.srcOf.eq_5 ∧
  type_of% @Go.Lg.V.cells.eq_1 ∧
  type_of% @Go.Lg.V.cells.eq_2 ∧
  type_of% @Go.Lg.V.known.eq_1 ∧
  type_of% @Go.Lg.V.known.eq_2 ∧
  type_of% @Go.Lg.isPtr.eq_1 ∧
  type_of% @Go.Lg.isPtr.eq_2 ∧
  type_of% @Go.Lg.isPtr.eq_3 ∧
  type_of% @Go.Lg.partsOk.eq_1 ∧
  type_of% @Go.Lg.partsOk.eq_2 ∧
  type_of% @Go.Lg.fillL.eq_1 ∧
  type_of% @Go.Lg.fillL.eq_2 ∧
  type_of% @Go.Lg.St.put.eq_1 ∧
  type_of% @Go.Lg.dput_some ∧
  type_of% @Go.Lg.dput_none ∧
  type_of% @Go.Lg.tupd_app ∧
  type_of% @Go.Lg.hupd_app ∧
  type_of% @Go.Lg.cupd_app ∧
  type_of% @Go.Lg.siteOf.eq_1 :=
  ⟨@Go.Lg.liaS.eq_1, @Go.Lg.liaS.eq_2, @Go.Lg.liaS.eq_3, @Go.Lg.liaS.eq_4, @Go.Lg.liaS.eq_5, @Go.Lg.lixS.eq_1, @Go.Lg.lixS.eq_2, @Go.Lg.lixS.eq_3, @Go.Lg.ltas.eq_1, @Go.Lg.ltas.eq_2, @Go.Lg.ltas.eq_3, @Go.Lg.lext.eq_1, @Go.Lg.lext.eq_2, @Go.Lg.llen.eq_1, @Go.Lg.llen.eq_2, @Go.Lg.llen.eq_3, @Go.Lg.llen.eq_4, @Go.Lg.llen.eq_5, @Go.Lg.llen.eq_6, @Go.Lg.lmn.eq_1, @Go.Lg.lmn.eq_2, @Go.Lg.lcallv.eq_1, @Go.Lg.lcallv.eq_2, @Go.Lg.lappx.eq_1, @Go.Lg.lapp.eq_1, @Go.Lg.lapp.eq_2, @Go.Lg.lapp.eq_3, @Go.Lg.lenV.eq_1, @Go.Lg.lenV.eq_2, @Go.Lg.lenV.eq_3, @Go.Lg.lenV.eq_4, @Go.Lg.lenV.eq_5, @Go.Lg.lenV.eq_6, @Go.Lg.loOf.eq_1, @Go.Lg.loOf.eq_2, @Go.Lg.hiOf.eq_1, @Go.Lg.hiOf.eq_2, @Go.Lg.srcOf.eq_1, @Go.Lg.srcOf.eq_2, @Go.Lg.srcOf.eq_3, @Go.Lg.srcOf.eq_4, @Go.Lg.srcOf.eq_5, @Go.Lg.V.cells.eq_1, @Go.Lg.V.cells.eq_2, @Go.Lg.V.known.eq_1, @Go.Lg.V.known.eq_2, @Go.Lg.isPtr.eq_1, @Go.Lg.isPtr.eq_2, @Go.Lg.isPtr.eq_3, @Go.Lg.partsOk.eq_1, @Go.Lg.partsOk.eq_2, @Go.Lg.fillL.eq_1, @Go.Lg.fillL.eq_2, @Go.Lg.St.put.eq_1, @Go.Lg.dput_some, @Go.Lg.dput_none, @Go.Lg.tupd_app, @Go.Lg.hupd_app, @Go.Lg.cupd_app, @Go.Lg.siteOf.eq_1⟩

theorem VC4 : type_of% @Go.Lg.rvals.eq_1 ∧
  type_of% @Go.Lg.rvals.eq_2 ∧
  type_of% @Go.Lg.rval.eq_1 ∧
  type_of% @Go.Lg.rval.eq_2 ∧
  type_of% @Go.Lg.snap.eq_1 ∧
  type_of% @Go.Lg.snap.eq_2 ∧
  type_of% @Go.Lg.snap.eq_3 ∧
  type_of% @Go.Lg.snap.eq_4 ∧
  type_of% @Go.Lg.snap.eq_5 ∧
  type_of% @Go.Lg.snap.eq_6 ∧
  type_of% @Go.Lg.snap.eq_7 ∧
  type_of% @Go.Lg.snap.eq_8 ∧
  type_of% @Go.Lg.snap.eq_9 ∧
  type_of% @Go.Lg.snap.eq_10 ∧
  type_of% @Go.Lg.sok.eq_1 ∧
  type_of% @Go.Lg.sok.eq_2 ∧
  type_of% @Go.Lg.sok.eq_3 ∧
  type_of% @Go.Lg.sok.eq_4 ∧
  type_of% @Go.Lg.sok.eq_5 ∧
  type_of% @Go.Lg.sok.eq_6 ∧
  type_of% @Go.Lg.sok.eq_7 ∧
  type_of% @Go.Lg.sok.eq_8 ∧
  type_of% @Go.Lg.sok.eq_9 ∧
  type_of% @Go.Lg.sok.eq_10 ∧
  type_of% @Go.Lg.frs.eq_1 ∧
  type_of% @Go.Lg.frs.eq_2 ∧
  type_of% @Go.Lg.frs.eq_3 ∧
  type_of% @Go.Lg.frs.eq_4 ∧
  type_of% @Go.Lg.frs.eq_5 ∧
  type_of% @Go.Lg.frs.eq_6 ∧
  type_of% @Go.Lg.frs.eq_7 ∧
  type_of% @Go.Lg.frs.eq_8 ∧
  type_of% @Go.Lg.frs.eq_9 ∧
  type_of% @Go.Lg.frs.eq_10 ∧
  type_of% @Go.Lg.frs.eq_11 ∧
  type_of% @Go.Lg.frs.eq_12 ∧
  type_of% @Go.Lg.frs.eq_13 ∧
  type_of% @Go.Lg.frs.eq_14 ∧
  type_of% @Go.Lg.frs.eq_15 ∧
  type_of% @Go.Lg.argTm_app ∧
  type_of% @Go.Lg.noH_app ∧
  type_of% @Go.Lg.noC_app ∧
  type_of% @Go.Lg.tmk_nil ∧
  type_of% @Go.Lg.tmk_cons ∧
  type_of% @Go.Lg.hmk_nil ∧
  type_of% @Go.Lg.hmk_cons ∧
  type_of% @Go.Lg.tmOk.eq_1 ∧
  type_of% @Go.Lg.tmOk.eq_2 ∧
  type_of% @Go.Lg.hOk.eq_1 ∧
  type_of% @Go.Lg.hOk.eq_2 ∧
  type_of% @Option.map.eq_1.{0,0} ∧
  type_of% @Option.map.eq_2.{0,0} ∧
  type_of% @Prod.mk.injEq.{0,0} ∧
  type_of% @List.getD_cons_zero.{0} ∧
  type_of% @List.getD_cons_succ.{0} ∧
  type_of% @List.map_cons.{0,0} ∧
  type_of% @List.map_nil.{0,0} ∧
  type_of% @List.all_cons.{0} ∧
  type_of% @List.all_nil.{0} ∧
  type_of% @true_and :=
  ⟨@Go.Lg.rvals.eq_1, @Go.Lg.rvals.eq_2, @Go.Lg.rval.eq_1, @Go.Lg.rval.eq_2, @Go.Lg.snap.eq_1, @Go.Lg.snap.eq_2, @Go.Lg.snap.eq_3, @Go.Lg.snap.eq_4, @Go.Lg.snap.eq_5, @Go.Lg.snap.eq_6, @Go.Lg.snap.eq_7, @Go.Lg.snap.eq_8, @Go.Lg.snap.eq_9, @Go.Lg.snap.eq_10, @Go.Lg.sok.eq_1, @Go.Lg.sok.eq_2, @Go.Lg.sok.eq_3, @Go.Lg.sok.eq_4, @Go.Lg.sok.eq_5, @Go.Lg.sok.eq_6, @Go.Lg.sok.eq_7, @Go.Lg.sok.eq_8, @Go.Lg.sok.eq_9, @Go.Lg.sok.eq_10, @Go.Lg.frs.eq_1, @Go.Lg.frs.eq_2, @Go.Lg.frs.eq_3, @Go.Lg.frs.eq_4, @Go.Lg.frs.eq_5, @Go.Lg.frs.eq_6, @Go.Lg.frs.eq_7, @Go.Lg.frs.eq_8, @Go.Lg.frs.eq_9, @Go.Lg.frs.eq_10, @Go.Lg.frs.eq_11, @Go.Lg.frs.eq_12, @Go.Lg.frs.eq_13, @Go.Lg.frs.eq_14, @Go.Lg.frs.eq_15, @Go.Lg.argTm_app, @Go.Lg.noH_app, @Go.Lg.noC_app, @Go.Lg.tmk_nil, @Go.Lg.tmk_cons, @Go.Lg.hmk_nil, @Go.Lg.hmk_cons, @Go.Lg.tmOk.eq_1, @Go.Lg.tmOk.eq_2, @Go.Lg.hOk.eq_1, @Go.Lg.hOk.eq_2, @Option.map.eq_1.{0,0}, @Option.map.eq_2.{0,0}, @Prod.mk.injEq.{0,0}, @List.getD_cons_zero.{0}, @List.getD_cons_succ.{0}, @List.map_cons.{0,0}, @List.map_nil.{0,0}, @List.all_cons.{0}, @List.all_nil.{0}, @true_and⟩

theorem VC5 : type_of% @and_true ∧
  type_of% @and_self ∧
  type_of% @and_false ∧
  type_of% @false_and ∧
  type_of% @Bool.true_and ∧
  type_of% @Bool.and_true ∧
  type_of% @Bool.not_true ∧
  type_of% @Bool.not_false ∧
  type_of% @beq_self_eq_true.{0} ∧
  type_of% @decide_eq_true_eq ∧
  type_of% @decide_eq_false_iff_not ∧
  type_of% @Int.toNat_natCast ∧
  type_of% @Nat.zero_add ∧
  type_of% @Nat.add_zero ∧
  type_of% @Nat.mul_one ∧
  type_of% @forall_const.{1} ∧
  type_of% @eq_self.{1} ∧
  type_of% @Bool.false_eq_true ∧
  type_of% @Bool.true_eq_false ∧
  type_of% @false_implies ∧
  type_of% @true_implies ∧
  type_of% @beq_true ∧
  type_of% @beq_false ∧
  type_of% @if_true.{1} ∧
  type_of% @if_false.{1} ∧
  type_of% @List.cons_append.{0} ∧
  type_of% @List.nil_append.{0} ∧
  type_of% @Nat.le_refl ∧
  type_of% @Nat.lt_add_one ∧
  type_of% @Go.Lg.stO.eq_1 ∧
  type_of% @Go.Lg.slO.eq_1 ∧
  type_of% @Go.Lg.slO.eq_2 ∧
  type_of% @Go.Lg.SS.v.eq_1 ∧
  type_of% @Go.Lg.SS.v.eq_2 ∧
  type_of% @Go.Lg.SS.v.eq_3 ∧
  type_of% @Go.Lg.SS.v.eq_4 ∧
  type_of% @Go.Lg.SS.v.eq_5 ∧
  type_of% @Go.Lg.SS.v.eq_6 ∧
  type_of% @Go.Lg.SS.v.eq_7 ∧
  type_of% @Go.Lg.SS.v.eq_8 ∧
  type_of% @Go.Lg.SS.v.eq_9 ∧
  type_of% @Go.Lg.SS.v.eq_10 ∧
  type_of% @Go.Lg.SS.v.eq_11 ∧
  type_of% @Go.Lg.hpO.eq_1 ∧
  type_of% @Go.Lg.hpO.eq_2 ∧
  type_of% @Go.Lg.hpO.eq_3 ∧
  type_of% @Go.Lg.hpO.eq_4 ∧
  type_of% @Go.Lg.hpO.eq_5 ∧
  type_of% @Go.Lg.hpO.eq_6 ∧
  type_of% @Go.Lg.hpO.eq_7 ∧
  type_of% @Go.Lg.hpO.eq_8 ∧
  type_of% @Go.Lg.hpO.eq_9 ∧
  type_of% @Go.Lg.hpO.eq_10 ∧
  type_of% @Go.Lg.hpO.eq_11 ∧
  type_of% @Go.Lg.hpO.eq_12 ∧
  type_of% @Go.Lg.cnO.eq_1 ∧
  type_of% @Go.Lg.mxO.eq_1 ∧
  type_of% @Go.Lg.mxO.eq_2 ∧
  type_of% @Go.Lg.mxO.eq_3 ∧
  type_of% @Go.Lg.PK.eq_1 :=
  ⟨@and_true, @and_self, @and_false, @false_and, @Bool.true_and, @Bool.and_true, @Bool.not_true, @Bool.not_false, @beq_self_eq_true.{0}, @decide_eq_true_eq, @decide_eq_false_iff_not, @Int.toNat_natCast, @Nat.zero_add, @Nat.add_zero, @Nat.mul_one, @forall_const.{1}, @eq_self.{1}, @Bool.false_eq_true, @Bool.true_eq_false, @false_implies, @true_implies, @beq_true, @beq_false, @if_true.{1}, @if_false.{1}, @List.cons_append.{0}, @List.nil_append.{0}, @Nat.le_refl, @Nat.lt_add_one, @Go.Lg.stO.eq_1, @Go.Lg.slO.eq_1, @Go.Lg.slO.eq_2, @Go.Lg.SS.v.eq_1, @Go.Lg.SS.v.eq_2, @Go.Lg.SS.v.eq_3, @Go.Lg.SS.v.eq_4, @Go.Lg.SS.v.eq_5, @Go.Lg.SS.v.eq_6, @Go.Lg.SS.v.eq_7, @Go.Lg.SS.v.eq_8, @Go.Lg.SS.v.eq_9, @Go.Lg.SS.v.eq_10, @Go.Lg.SS.v.eq_11, @Go.Lg.hpO.eq_1, @Go.Lg.hpO.eq_2, @Go.Lg.hpO.eq_3, @Go.Lg.hpO.eq_4, @Go.Lg.hpO.eq_5, @Go.Lg.hpO.eq_6, @Go.Lg.hpO.eq_7, @Go.Lg.hpO.eq_8, @Go.Lg.hpO.eq_9, @Go.Lg.hpO.eq_10, @Go.Lg.hpO.eq_11, @Go.Lg.hpO.eq_12, @Go.Lg.cnO.eq_1, @Go.Lg.mxO.eq_1, @Go.Lg.mxO.eq_2, @Go.Lg.mxO.eq_3, @Go.Lg.PK.eq_1⟩

theorem VC6 : type_of% @Go.Lg.entL.eq_1 ∧
  type_of% @Go.Lg.entL.eq_2 ∧
  type_of% @Go.Lg.entS.eq_1 ∧
  type_of% @Go.Lg.entS.eq_2 ∧
  type_of% @Go.Lg.entS.eq_3 ∧
  type_of% @Go.Lg.entS.eq_4 ∧
  type_of% @Go.Lg.entS.eq_5 ∧
  type_of% @Go.Lg.entS.eq_6 ∧
  type_of% @Go.Lg.entS.eq_7 ∧
  type_of% @Go.Lg.entS.eq_8 ∧
  type_of% @Go.Lg.entS.eq_9 ∧
  type_of% @Go.Lg.entS.eq_10 ∧
  type_of% @Go.Lg.entS.eq_11 ∧
  type_of% @Go.Lg.ownAt.eq_1 ∧
  type_of% @Go.Lg.ownAt.eq_2 ∧
  type_of% @Go.Lg.ownAt.eq_3 ∧
  type_of% @Go.Lg.boxAt.eq_1 ∧
  type_of% @Go.Lg.boxAt.eq_2 ∧
  type_of% @List.mem_nil_iff.{0} ∧
  type_of% @List.not_mem_nil.{0} ∧
  type_of% @not_false_eq_true ∧
  type_of% @or_false ∧
  type_of% @false_or ∧
  type_of% @not_or ∧
  type_of% @true_or ∧
  type_of% @or_true ∧
  type_of% @Nat.zero_ne_one ∧
  type_of% @Go.Lg.rowV_ld ∧
  type_of% @Go.Lg.hfz.eq_1 ∧
  type_of% @Option.map_some.{0,0} ∧
  type_of% @Go.Lg.intBeq ∧
  type_of% @Go.Lg.intBne ∧
  type_of% @Bool.not_not ∧
  type_of% @decide_true ∧
  type_of% @decide_false ∧
  type_of% @not_true_eq_false ∧
  type_of% @ge_iff_le.{0} ∧
  type_of% @gt_iff_lt.{0} ∧
  type_of% @ite_not.{0} ∧
  type_of% @Bool.true_or ∧
  type_of% @Bool.or_true ∧
  type_of% @Bool.false_or ∧
  type_of% @Bool.or_false ∧
  type_of% @Bool.false_and ∧
  type_of% @Bool.and_false ∧
  type_of% @List.length_nil.{0} ∧
  type_of% @List.length_cons.{0} ∧
  type_of% @Go.Lg.imV.eq_1 ∧
  type_of% @Go.Lg.imV.eq_2 ∧
  type_of% @Go.Lg.imV.eq_3 ∧
  type_of% @Go.Lg.imV.eq_4 ∧
  type_of% @Go.Lg.imV.eq_5 ∧
  type_of% @Go.Lg.imV.eq_6 ∧
  type_of% @Go.Lg.imV.eq_7 ∧
  type_of% @Go.Lg.imV.eq_8 ∧
  type_of% @Go.Lg.imV.eq_9 ∧
  type_of% @Go.Lg.imV.eq_10 ∧
  type_of% @Go.Lg.imV.eq_11 ∧
  type_of% @Go.Lg.imV.eq_12 ∧
  type_of% @Go.Lg.imV.eq_13 :=
  ⟨@Go.Lg.entL.eq_1, @Go.Lg.entL.eq_2, @Go.Lg.entS.eq_1, @Go.Lg.entS.eq_2, @Go.Lg.entS.eq_3, @Go.Lg.entS.eq_4, @Go.Lg.entS.eq_5, @Go.Lg.entS.eq_6, @Go.Lg.entS.eq_7, @Go.Lg.entS.eq_8, @Go.Lg.entS.eq_9, @Go.Lg.entS.eq_10, @Go.Lg.entS.eq_11, @Go.Lg.ownAt.eq_1, @Go.Lg.ownAt.eq_2, @Go.Lg.ownAt.eq_3, @Go.Lg.boxAt.eq_1, @Go.Lg.boxAt.eq_2, @List.mem_nil_iff.{0}, @List.not_mem_nil.{0}, @not_false_eq_true, @or_false, @false_or, @not_or, @true_or, @or_true, @Nat.zero_ne_one, @Go.Lg.rowV_ld, @Go.Lg.hfz.eq_1, @Option.map_some.{0,0}, @Go.Lg.intBeq, @Go.Lg.intBne, @Bool.not_not, @decide_true, @decide_false, @not_true_eq_false, @ge_iff_le.{0}, @gt_iff_lt.{0}, @ite_not.{0}, @Bool.true_or, @Bool.or_true, @Bool.false_or, @Bool.or_false, @Bool.false_and, @Bool.and_false, @List.length_nil.{0}, @List.length_cons.{0}, @Go.Lg.imV.eq_1, @Go.Lg.imV.eq_2, @Go.Lg.imV.eq_3, @Go.Lg.imV.eq_4, @Go.Lg.imV.eq_5, @Go.Lg.imV.eq_6, @Go.Lg.imV.eq_7, @Go.Lg.imV.eq_8, @Go.Lg.imV.eq_9, @Go.Lg.imV.eq_10, @Go.Lg.imV.eq_11, @Go.Lg.imV.eq_12, @Go.Lg.imV.eq_13⟩

theorem VC7 : type_of% @Go.Lg.imV.eq_14 ∧
  type_of% @Go.Lg.imV.eq_15 ∧
  type_of% @Go.Lg.imV.eq_16 ∧
  type_of% @Go.Lg.imV.eq_17 ∧
  type_of% @Go.Lg.V.int.injEq ∧
  type_of% @Go.Lg.V.bool.injEq ∧
  type_of% @Go.Lg.V.sl.injEq ∧
  type_of% @Go.Lg.V.str.injEq ∧
  type_of% @Int.natCast_zero ∧
  type_of% @Int.natCast_add ∧
  type_of% @Int.natCast_one ∧
  type_of% @Int.add_sub_cancel ∧
  type_of% @Nat.add_assoc ∧
  type_of% @Go.Lg.slOf.eq_1 ∧
  type_of% @Go.Lg.slOf.eq_2 ∧
  type_of% @Go.Lg.one_int ∧
  type_of% @Go.Lg.one_bool ∧
  type_of% @Go.Lg.one_str ∧
  type_of% @Go.Lg.one_sl ∧
  type_of% @Go.Lg.one_e0 ∧
  type_of% @Go.Lg.one_msl ∧
  type_of% @Go.Lg.one_mp ∧
  type_of% @Go.Lg.one_ip ∧
  type_of% @Go.Lg.one_nilp ∧
  type_of% @Go.Lg.one_fn ∧
  type_of% @Go.Lg.one_ifc ∧
  type_of% @Go.Lg.one_nili ∧
  type_of% @Nat.sub_zero ∧
  type_of% @Int.cast_ofNat_Int ∧
  type_of% @Int.le_refl ∧
  type_of% @Go.Lg.vcg_join ∧
  type_of% @List.drop_zero.{0} ∧
  type_of% @Go.Lg.vcg_regb ∧
  type_of% @Go.Lg.vopsB_nil ∧
  type_of% @Go.Lg.vopsB_consF ∧
  type_of% @Go.Lg.vopsB_consT ∧
  type_of% @Go.Lg.vstepL_none ∧
  type_of% @Go.Lg.litR_bsl ∧
  type_of% @Go.Lg.rmut.eq_1 ∧
  type_of% @Go.Lg.rmut.eq_2 ∧
  type_of% @Go.Lg.lappE.eq_1 ∧
  type_of% @Go.Lg.lappE.eq_2 ∧
  type_of% @Go.Lg.St.call.eq_1 ∧
  type_of% @Go.Lg.St.back.eq_1 ∧
  type_of% @Go.Lg.callTm_app ∧
  type_of% @Go.Lg.backTm_app ∧
  type_of% @Go.Lg.mapAt.eq_1 ∧
  type_of% @Go.Lg.mapAt.eq_2 ∧
  type_of% @Go.Lg.boxmAt.eq_1 ∧
  type_of% @Go.Lg.boxmAt.eq_2 ∧
  type_of% @Go.Lg.ownFAt.eq_1 ∧
  type_of% @Go.Lg.ownFAt.eq_2 ∧
  type_of% @Go.Lg.ownFAt.eq_3 ∧
  type_of% @Go.Lg.boxoAt.eq_1 ∧
  type_of% @Go.Lg.boxoAt.eq_2 ∧
  type_of% @Go.Lg.SS.isBox.eq_1 ∧
  type_of% @Go.Lg.SS.isBox.eq_2 ∧
  type_of% @Go.Lg.SS.isBox.eq_3 ∧
  type_of% @Go.Lg.SS.isBox.eq_4 ∧
  type_of% @Go.Lg.one_mm :=
  ⟨@Go.Lg.imV.eq_14, @Go.Lg.imV.eq_15, @Go.Lg.imV.eq_16, @Go.Lg.imV.eq_17, @Go.Lg.V.int.injEq, @Go.Lg.V.bool.injEq, @Go.Lg.V.sl.injEq, @Go.Lg.V.str.injEq, @Int.natCast_zero, @Int.natCast_add, @Int.natCast_one, @Int.add_sub_cancel, @Nat.add_assoc, @Go.Lg.slOf.eq_1, @Go.Lg.slOf.eq_2, @Go.Lg.one_int, @Go.Lg.one_bool, @Go.Lg.one_str, @Go.Lg.one_sl, @Go.Lg.one_e0, @Go.Lg.one_msl, @Go.Lg.one_mp, @Go.Lg.one_ip, @Go.Lg.one_nilp, @Go.Lg.one_fn, @Go.Lg.one_ifc, @Go.Lg.one_nili, @Nat.sub_zero, @Int.cast_ofNat_Int, @Int.le_refl, @Go.Lg.vcg_join, @List.drop_zero.{0}, @Go.Lg.vcg_regb, @Go.Lg.vopsB_nil, @Go.Lg.vopsB_consF, @Go.Lg.vopsB_consT, @Go.Lg.vstepL_none, @Go.Lg.litR_bsl, @Go.Lg.rmut.eq_1, @Go.Lg.rmut.eq_2, @Go.Lg.lappE.eq_1, @Go.Lg.lappE.eq_2, @Go.Lg.St.call.eq_1, @Go.Lg.St.back.eq_1, @Go.Lg.callTm_app, @Go.Lg.backTm_app, @Go.Lg.mapAt.eq_1, @Go.Lg.mapAt.eq_2, @Go.Lg.boxmAt.eq_1, @Go.Lg.boxmAt.eq_2, @Go.Lg.ownFAt.eq_1, @Go.Lg.ownFAt.eq_2, @Go.Lg.ownFAt.eq_3, @Go.Lg.boxoAt.eq_1, @Go.Lg.boxoAt.eq_2, @Go.Lg.SS.isBox.eq_1, @Go.Lg.SS.isBox.eq_2, @Go.Lg.SS.isBox.eq_3, @Go.Lg.SS.isBox.eq_4, @Go.Lg.one_mm⟩

theorem VC8 : type_of% @Go.Lg.one_im ∧
  type_of% @Go.Lg.lmsb.eq_1 ∧
  type_of% @Go.Lg.lmsb.eq_2 ∧
  type_of% @Go.Lg.lmlk.eq_1 ∧
  type_of% @Go.Lg.lmlk.eq_2 ∧
  type_of% @Go.Lg.lmlk.eq_3 ∧
  type_of% @Go.Lg.lmset.eq_1 ∧
  type_of% @Go.Lg.lmset.eq_2 ∧
  type_of% @Go.Lg.lmlen.eq_1 ∧
  type_of% @Go.Lg.lmlen.eq_2 ∧
  type_of% @Go.Lg.lmlen.eq_3 ∧
  type_of% @Go.Lg.lmlen.eq_4 ∧
  type_of% @Go.Lg.ls2b.eq_1 ∧
  type_of% @Go.Lg.ls2b.eq_2 ∧
  type_of% @Go.Lg.lb2s.eq_1 ∧
  type_of% @Go.Lg.leqa.eq_1 ∧
  type_of% @Go.Lg.leqa.eq_2 ∧
  type_of% @Go.Lg.lkV.eq_1 ∧
  type_of% @Go.Lg.lkV.eq_2 ∧
  type_of% @Go.Lg.keyV.eq_1 ∧
  type_of% @Go.Lg.keyV.eq_2 ∧
  type_of% @Go.Lg.keyV.eq_3 ∧
  type_of% @Go.Lg.keyV.eq_4 ∧
  type_of% @Go.Lg.keyV.eq_5 ∧
  type_of% @Go.Lg.findK.eq_1 ∧
  type_of% @Go.Lg.findK.eq_2 ∧
  type_of% @Go.Lg.eqK.eq_1 ∧
  type_of% @Go.Lg.eqK.eq_2 ∧
  type_of% @Go.Lg.eqK.eq_3 ∧
  type_of% @Go.Lg.eqK.eq_4 ∧
  type_of% @Go.Lg.eqK.eq_5 ∧
  type_of% @Go.Lg.eqInts.eq_1 ∧
  type_of% @Go.Lg.eqInts.eq_2 ∧
  type_of% @Go.Lg.eqInts.eq_3 ∧
  type_of% @Go.Lg.intsK.eq_1 ∧
  type_of% @Go.Lg.intsK.eq_2 ∧
  type_of% @Go.Lg.intsK.eq_3 ∧
  type_of% @Go.Lg.isSlV.eq_1 ∧
  type_of% @Go.Lg.isSlV.eq_2 ∧
  type_of% @Go.Lg.isSlV.eq_3 ∧
  type_of% @Go.Lg.isSlV.eq_4 :=
  ⟨@Go.Lg.one_im, @Go.Lg.lmsb.eq_1, @Go.Lg.lmsb.eq_2, @Go.Lg.lmlk.eq_1, @Go.Lg.lmlk.eq_2, @Go.Lg.lmlk.eq_3, @Go.Lg.lmset.eq_1, @Go.Lg.lmset.eq_2, @Go.Lg.lmlen.eq_1, @Go.Lg.lmlen.eq_2, @Go.Lg.lmlen.eq_3, @Go.Lg.lmlen.eq_4, @Go.Lg.ls2b.eq_1, @Go.Lg.ls2b.eq_2, @Go.Lg.lb2s.eq_1, @Go.Lg.leqa.eq_1, @Go.Lg.leqa.eq_2, @Go.Lg.lkV.eq_1, @Go.Lg.lkV.eq_2, @Go.Lg.keyV.eq_1, @Go.Lg.keyV.eq_2, @Go.Lg.keyV.eq_3, @Go.Lg.keyV.eq_4, @Go.Lg.keyV.eq_5, @Go.Lg.findK.eq_1, @Go.Lg.findK.eq_2, @Go.Lg.eqK.eq_1, @Go.Lg.eqK.eq_2, @Go.Lg.eqK.eq_3, @Go.Lg.eqK.eq_4, @Go.Lg.eqK.eq_5, @Go.Lg.eqInts.eq_1, @Go.Lg.eqInts.eq_2, @Go.Lg.eqInts.eq_3, @Go.Lg.intsK.eq_1, @Go.Lg.intsK.eq_2, @Go.Lg.intsK.eq_3, @Go.Lg.isSlV.eq_1, @Go.Lg.isSlV.eq_2, @Go.Lg.isSlV.eq_3, @Go.Lg.isSlV.eq_4⟩

end Go.Lg

/-
  What comes in: whatever can be read as data of a type is a logical value of that type's shape, in memory that never turns.
-/
set_option linter.unusedSimpArgs false
set_option linter.unusedVariables false
namespace Go.Lg
open Go Go.RowKit

/-- Types whose values are not looked into. -/
def otherOk (P : Program) : TypeDesc → Bool
  | .bool | .int _ | .string | .struct _ | .array .. => false
  | .slice e => P.cellsOf e == 0
  | _ => true

/-- The cells of a value of a type. -/
inductive Ty (P : Program) : TypeId → List V → Prop
  | bool (t b) : P.underlying t = some .bool → Ty P t [.bool b]
  | int (t k n) : P.underlying t = some (.int k) → (Lit.int k n).wf = true → Ty P t [.int k n]
  | str (t s) : P.underlying t = some .string → s.size ≤ maxLen → Ty P t [.str s]
  | struct (t fs cs) : P.underlying t = some (.struct fs) → cs.length = P.cellsOf t → (∀ f ∈ fs.toList, Ty P f.type ((cs.drop f.offset).take (P.cellsOf f.type))) → Ty P t cs
  | array (t n e cs) : P.underlying t = some (.array n e) → cs.length = P.cellsOf t → (∀ i, i < n → Ty P e ((cs.drop (i * P.cellsOf e)).take (P.cellsOf e))) → Ty P t cs
  | slice (t e n cs) : P.underlying t = some (.slice e) → cs.length = n * P.cellsOf e → n ≤ maxLen → (∀ i, i < n → Ty P e ((cs.drop (i * P.cellsOf e)).take (P.cellsOf e))) → Ty P t [.sl n cs]
  | other (t d) : P.underlying t = some d → otherOk P d = true → Ty P t [.junk]

section
variable {P : Program} {H : Type} {enc : TypeId × Value → H} {w : World}

/-- Cells of the model and logical ones. -/
def CellsRep (w : World) (cs : List Value) (xs : List V) : Prop :=
  xs.length = cs.length ∧ ∀ (j : Nat) (v : Value) (x : V), cs[j]? = some v → xs[j]? = some x → RepI (· < w.heap.size) w v x

theorem CellsRep.one {v : Value} {x : V} (h : RepI (· < w.heap.size) w v x) : CellsRep w [v] [x] := by
  refine ⟨rfl, fun j u y hu hy => ?_⟩
  cases j with
  | zero => simp at hu hy; subst hu hy; exact h
  | succ j => simp at hu

theorem cells?_spec {a : Addr} {n : Nat} {l : List Value} (h : w.cells? 0 a n = some l) : l.length = n ∧ (0 < n → ∃ us T fz, a.spot = none ∧ w.heap[a.block]? = some (.cells us T fz) ∧ a.off + n ≤ us.size ∧ ∀ j, j < n → us[a.off + j]? = l[j]?) := by
  unfold World.cells? at h
  rw [if_pos (Nat.zero_le _)] at h
  obtain ⟨h1, h2⟩ := mapM_spec h
  rw [List.length_range] at h1
  have get : ∀ j (hj : j < n), w.cell? (a.add j) = some (l[j]'(by omega)) := by
    intro j hj
    exact h2 j j _ (by simp [hj]) (List.getElem?_eq_getElem (by omega))
  refine ⟨h1, fun hn => ?_⟩
  have h0 := get 0 hn
  have e0 : a.add 0 = a := by simp [Addr.add]
  rw [e0] at h0
  have hspot : a.spot = none := by
    unfold World.cell? at h0
    split at h0
    · split at h0
      · cases h0
      · rename_i hsp; simpa using hsp
    · cases h0
  obtain ⟨b, off, spot⟩ := a
  subst hspot
  unfold World.cell? at h0
  simp only [] at h0
  cases hb : w.heap[b]? with
  | none => rw [hb] at h0; cases h0
  | some ob =>
    cases ob with
    | cells us T fz =>
      have cell : ∀ j, j < n → us[off + j]? = l[j]? := by
        intro j hj
        have := get j hj
        rw [addr_add, cell_at hb] at this
        rw [this, List.getElem?_eq_getElem (by omega)]
      refine ⟨us, T, fz, rfl, rfl, ?_, cell⟩
      have hl := cell (n - 1) (by omega)
      rw [List.getElem?_eq_getElem (by omega)] at hl
      have : off + (n - 1) < us.size := by
        rcases Nat.lt_or_ge (off + (n - 1)) us.size with h' | h'
        · exact h'
        · rw [Array.getElem?_eq_none h'] at hl; cases hl
      simp only []
      omega
    | _ => rw [hb] at h0; cases h0

/-- Fields side by side. -/
def tileF (P : Program) : Nat → List Field → Option Nat
  | o, [] => some o
  | o, f :: r => if f.offset = o then tileF P (o + P.cellsOf f.type) r else none
def tileOk (P : Program) (t : TypeId) : Bool := match P.underlying t with
  | some (.struct fs) => tileF P 0 fs.toList == some (P.cellsOf t)
  | some (.array n e) => n * P.cellsOf e == P.cellsOf t
  | _ => true

def compsOf (P : Program) (t : TypeId) : List TypeId := match P.underlying t with
  | some (.struct fs) => fs.toList.map (·.type)
  | some (.array _ e) | some (.slice e) => [e]
  | _ => []
/-- All types of the table are laid out side by side, and made of types of the table. -/
def tilesOk (P : Program) : Bool := (List.range P.types.size).all fun t => tileOk P t && (compsOf P t).all fun c => decide (c < P.types.size)

theorem tile_all (h : tilesOk P = true) {t : TypeId} (ht : t < P.types.size) : tileOk P t = true ∧ ∀ c ∈ compsOf P t, c < P.types.size := by
  have := List.all_eq_true.1 h t (List.mem_range.2 ht)
  simp only [Bool.and_eq_true] at this
  exact ⟨this.1, fun c hc => by simpa using List.all_eq_true.1 this.2 c hc⟩

theorem fields_rep {fuel : Nat} (ih : ∀ (t : TypeId) (cs : List Value) (d : DataW H) (p : List MemPlace), t < P.types.size → DataW.trod enc P w 0 (fun _ => true) true fuel t cs = some (d, p) → ∃ xs, Ty P t xs ∧ CellsRep w cs xs) (cs : List Value) :
    ∀ (fs : List Field) (o n : Nat), (∀ f ∈ fs, f.type < P.types.size) → tileF P o fs = some n → n ≤ cs.length → (∀ f ∈ fs, ∃ x, DataW.trod enc P w 0 (fun _ => true) true fuel f.type ((cs.drop f.offset).take (P.cellsOf f.type)) = some x) →
      ∃ xs, o ≤ n ∧ CellsRep w ((cs.drop o).take (n - o)) xs ∧ ∀ f ∈ fs, o ≤ f.offset ∧ Ty P f.type ((xs.drop (f.offset - o)).take (P.cellsOf f.type))
  | [], o, n, _, ht, hn, _ => by
    cases ht
    exact ⟨[], Nat.le_refl _, ⟨by simp, fun j v x h => by simp at h⟩, fun f h => by cases h⟩
  | f :: r, o, n, hin, ht, hn, hf => by
    simp only [tileF] at ht
    split at ht
    case isFalse => cases ht
    rename_i hoff
    obtain ⟨xs', hle, hrep, hty⟩ := fields_rep ih cs r _ n (fun f hm => hin f (List.mem_cons_of_mem _ hm)) ht hn fun f hm => hf f (List.mem_cons_of_mem _ hm)
    obtain ⟨⟨d, p⟩, hx⟩ := hf f (List.mem_cons_self ..)
    obtain ⟨ys, hyt, hyr⟩ := ih _ _ _ _ (hin f (List.mem_cons_self ..)) hx
    rw [hoff] at hx hyr
    have hyl : ys.length = P.cellsOf f.type := by
      rw [hyr.1, List.length_take, List.length_drop]; omega
    have hsplit : (cs.drop o).take (n - o) = (cs.drop o).take (P.cellsOf f.type) ++ (cs.drop (o + P.cellsOf f.type)).take (n - (o + P.cellsOf f.type)) := by
      have e1 : n - o = P.cellsOf f.type + (n - (o + P.cellsOf f.type)) := by omega
      rw [e1, List.take_add, List.drop_drop]
    refine ⟨ys ++ xs', by omega, ?_, fun g hg => ?_⟩
    · rw [hsplit]
      refine ⟨by rw [List.length_append, List.length_append, hyr.1, hrep.1], fun j v x hv hx' => ?_⟩
      have hl : ((cs.drop o).take (P.cellsOf f.type)).length = ys.length := hyr.1.symm
      rw [List.getElem?_append, hl] at hv
      rw [List.getElem?_append] at hx'
      split at hv
      · rename_i hlt; rw [if_pos hlt] at hx'; exact hyr.2 j v x hv hx'
      · rename_i hlt; rw [if_neg hlt] at hx'; exact hrep.2 _ v x hv hx'
    · rcases List.mem_cons.1 hg with rfl | hg
      · refine ⟨by omega, ?_⟩
        rw [hoff, Nat.sub_self, List.drop_zero, List.take_append_of_le_length (by omega), List.take_of_length_le (by omega)]
        exact hyt
      · obtain ⟨h1, h2⟩ := hty g hg
        refine ⟨by omega, ?_⟩
        rw [List.drop_append, List.drop_eq_nil_of_le (by omega), List.nil_append, show g.offset - o - ys.length = g.offset - (o + P.cellsOf f.type) by omega]
        exact h2

/-- Elements side by side, each read by itself. -/
theorem elems_rep {e s : Nat} : ∀ (n : Nat) (get : Nat → List Value), (∀ i, i < n → (get i).length = s ∧ ∃ xs, Ty P e xs ∧ CellsRep w (get i) xs) →
    ∃ xs, CellsRep w ((List.range n).flatMap get) xs ∧ xs.length = n * s ∧ ∀ i, i < n → Ty P e ((xs.drop (i * s)).take s)
  | 0, get, _ => ⟨[], ⟨rfl, fun j v x h => by simp at h⟩, by simp, fun i h => by omega⟩
  | n + 1, get, h => by
    obtain ⟨xs, h1, h2, h3⟩ := elems_rep n get fun i hi => h i (by omega)
    obtain ⟨hl, ys, hy1, hy2⟩ := h n (by omega)
    have hyl : ys.length = s := by rw [hy2.1, hl]
    rw [List.range_succ, List.flatMap_append]
    simp only [List.flatMap_cons, List.flatMap_nil, List.append_nil]
    refine ⟨xs ++ ys, ⟨by rw [List.length_append, List.length_append, h1.1, hy2.1], fun j v x hv hx => ?_⟩, by rw [List.length_append, h2, hyl, Nat.add_mul]; omega, fun i hi => ?_⟩
    · rw [List.getElem?_append, ← h1.1] at hv
      rw [List.getElem?_append] at hx
      split at hv
      · rename_i hlt; rw [if_pos hlt] at hx; exact h1.2 j v x hv hx
      · rename_i hlt; rw [if_neg hlt] at hx; exact hy2.2 _ v x hv hx
    · rcases Nat.lt_or_ge i n with hlt | hge
      · have hm : i * s + s ≤ n * s := by
          have := Nat.mul_le_mul_right s (show i + 1 ≤ n by omega)
          rw [Nat.add_mul] at this; omega
        rw [List.drop_append_of_le_length (by omega), List.take_append_of_le_length (by rw [List.length_drop]; omega)]
        exact h3 i hlt
      · obtain rfl : i = n := by omega
        rw [List.drop_append, List.drop_eq_nil_of_le (by omega), h2, Nat.sub_self]
        simp only [List.nil_append, List.drop_zero]
        rw [List.take_of_length_le (by omega)]
        exact hy1

theorem trod_rep (htile : tilesOk P = true) : ∀ (fuel : Nat) (t : TypeId) (cs : List Value) (d : DataW H) (p : List MemPlace), t < P.types.size → DataW.trod enc P w 0 (fun _ => true) true fuel t cs = some (d, p) → ∃ xs, Ty P t xs ∧ CellsRep w cs xs
  | 0, t, cs, d, p, _, h => by cases h
  | fuel + 1, t, cs, d, p, hin, h => by
    have ih := trod_rep htile fuel
    obtain ⟨hto, hcomp⟩ := tile_all htile hin
    have h0 := h
    cases ht : P.underlying t with
    | none => unfold DataW.trod at h; rw [ht] at h; cases h
    | some td =>
      have other : ∀ v, cs = [v] → otherOk P td = true → ∃ xs, Ty P t xs ∧ CellsRep w cs xs := by
        intro v e hm
        subst e
        exact ⟨[.junk], .other t td ht hm, CellsRep.one (.junk _)⟩
      cases td with
      | bool =>
        obtain ⟨b, rfl, _⟩ := DataW.trod_bool ht h
        exact ⟨_, .bool t b ht, CellsRep.one (.bool b)⟩
      | int k =>
        obtain ⟨n, rfl, _, hw⟩ := DataW.trod_int ht h
        exact ⟨_, .int t k n ht hw, CellsRep.one (.int k n)⟩
      | string =>
        obtain ⟨s, rfl, _, hs⟩ := DataW.trod_string ht h
        exact ⟨_, .str t s ht hs, CellsRep.one (.str s)⟩
      | struct fs =>
        obtain ⟨ys, n, hn, _, hl, hlen, hf⟩ := DataW.trod_struct ht h
        obtain rfl : n = fuel := by omega
        simp only [tileOk, ht, beq_iff_eq] at hto
        obtain ⟨xs, h1, h2, h3⟩ := fields_rep ih cs fs.toList 0 _ (fun f hm => hcomp _ (by simp only [compsOf, ht]; exact List.mem_map_of_mem hm)) hto (by omega) (fun f hm => by
          obtain ⟨i, hi⟩ := List.mem_iff_getElem?.1 hm
          rw [Array.getElem?_toList] at hi
          have hlt : i < fs.size := by
            rcases Nat.lt_or_ge i fs.size with h' | h'
            · exact h'
            · rw [Array.getElem?_eq_none h'] at hi; cases hi
          exact ⟨ys[i], by rw [hf i f hi, List.getElem?_eq_getElem (by omega)]⟩)
        rw [List.drop_zero, Nat.sub_zero, List.take_of_length_le (by omega)] at h2
        exact ⟨xs, .struct t fs xs ht (by rw [h2.1, hl]) (fun f hm => by simpa using (h3 f hm).2), h2⟩
      | array n e =>
        obtain ⟨ys, m, hm, _, hl, hlen, hf⟩ := DataW.trod_array ht h
        obtain rfl : m = fuel := by omega
        simp only [tileOk, ht, beq_iff_eq] at hto
        obtain ⟨xs, h1, h2, h3⟩ := elems_rep (P := P) (e := e) (s := P.cellsOf e) (w := w) n (fun i => (cs.drop (i * P.cellsOf e)).take (P.cellsOf e)) (fun i hi => by
          refine ⟨?_, ?_⟩
          · have hmm : i * P.cellsOf e + P.cellsOf e ≤ n * P.cellsOf e := by
              have := Nat.mul_le_mul_right (P.cellsOf e) (show i + 1 ≤ n by omega)
              rw [Nat.add_mul] at this; omega
            rw [List.length_take, List.length_drop]; omega
          · have hx := hf i hi
            rw [List.getElem?_eq_getElem (by omega)] at hx
            exact ih _ _ _ _ (hcomp e (by simp [compsOf, ht])) hx)
        have hcs : (List.range n).flatMap (fun i => (cs.drop (i * P.cellsOf e)).take (P.cellsOf e)) = cs := by
          have key : ∀ m, m ≤ n → (List.range m).flatMap (fun i => (cs.drop (i * P.cellsOf e)).take (P.cellsOf e)) = cs.take (m * P.cellsOf e) := by
            intro m
            induction m with
            | zero => intro _; simp
            | succ m ihm =>
              intro hm
              rw [List.range_succ, List.flatMap_append, ihm (by omega)]
              simp only [List.flatMap_cons, List.flatMap_nil, List.append_nil]
              rw [Nat.add_mul, Nat.one_mul, List.take_add]
          rw [key n (Nat.le_refl _), List.take_of_length_le (by omega)]
        rw [hcs] at h1
        exact ⟨xs, .array t n e xs ht (by rw [h1.1, hl]) h3, h1⟩
      | slice e =>
        unfold DataW.trod at h
        rw [ht] at h
        simp only [] at h
        by_cases hz : P.cellsOf e = 0
        · obtain ⟨a, l, c, rfl⟩ := Joins.slice_form ht h0
          exact other _ rfl (by simp [otherOk, hz])
        · have hp : 0 < P.cellsOf e := Nat.pos_of_ne_zero hz
          obtain ⟨a, l, c, rfl⟩ := Joins.slice_form ht h0
          cases a with
          | none =>
            have hlc : l = 0 ∧ c = 0 := by
              split at h <;> first | (cases h; done) | simp_all
            obtain ⟨rfl, rfl⟩ := hlc
            exact ⟨[.sl 0 []], .slice t e 0 [] ht (by simp) (Nat.zero_le _) (fun i h => by omega), CellsRep.one (.sl0 _ _)⟩
          | some a =>
            simp only [] at h
            split at h
            case isFalse => cases h
            rename_i hcond
            simp only [Option.bind_eq_some_iff] at h
            obtain ⟨els, hels, _⟩ := h
            obtain ⟨q1, q2⟩ := mapM_spec hels
            rw [List.length_range] at q1
            have each : ∀ i, i < l → ∃ cl, w.cells? 0 (a.add (i * P.cellsOf e)) (P.cellsOf e) = some cl ∧ ∃ xs, Ty P e xs ∧ CellsRep w cl xs := by
              intro i hi
              have := q2 i i _ (by simp [hi]) (List.getElem?_eq_getElem (by omega))
              simp only [Option.bind_eq_some_iff] at this
              obtain ⟨cl, h1, h2⟩ := this
              exact ⟨cl, h1, ih _ _ _ _ (hcomp e (by simp [compsOf, ht])) h2⟩
            by_cases hl0 : l = 0
            · subst hl0
              exact ⟨[.sl 0 []], .slice t e 0 [] ht (by simp) (Nat.zero_le _) (fun i h => by omega), CellsRep.one (.sl0 _ _)⟩
            · obtain ⟨cl0, hc0, _⟩ := each 0 (by omega)
              have ea0 : a.add (0 * P.cellsOf e) = a := by simp [Addr.add]
              rw [ea0] at hc0
              obtain ⟨_, hblk⟩ := cells?_spec hc0
              obtain ⟨us, T, fz, hspot, hb, _, _⟩ := hblk hp
              clear hblk
              obtain ⟨b, off, spot⟩ := a
              simp only [] at hspot hb
              subst hspot
              obtain ⟨xs, h1, h2, h3⟩ := elems_rep (P := P) (e := e) (s := P.cellsOf e) (w := w) l (fun i => ((us.toList.drop (off + i * P.cellsOf e)).take (P.cellsOf e))) (fun i hi => by
                obtain ⟨cl, hcl, xs, hx1, hx2⟩ := each i hi
                rw [addr_add] at hcl
                obtain ⟨hlen, hsp⟩ := cells?_spec hcl
                obtain ⟨us', T', fz', _, hb', hsz, hget⟩ := hsp hp
                simp only [] at hb' hsz hget
                rw [hb] at hb'; cases hb'
                have heq : (us.toList.drop (off + i * P.cellsOf e)).take (P.cellsOf e) = cl := by
                  apply List.ext_getElem?
                  intro j
                  rw [List.getElem?_take]
                  split
                  · rename_i hj
                    rw [List.getElem?_drop, Array.getElem?_toList]
                    exact hget j hj
                  · rename_i hj
                    rw [List.getElem?_eq_none (by omega)]
                refine ⟨by rw [heq]; exact hlen, xs, hx1, by rw [heq]; exact hx2⟩)
              have hsz : off + l * P.cellsOf e ≤ us.size := by
                obtain ⟨cl, hcl, _⟩ := each (l - 1) (by omega)
                rw [addr_add] at hcl
                obtain ⟨_, hsp⟩ := cells?_spec hcl
                obtain ⟨us', T', fz', _, hb', hsz, _⟩ := hsp hp
                simp only [] at hb' hsz
                rw [hb] at hb'; cases hb'
                have : (l - 1) * P.cellsOf e + P.cellsOf e = l * P.cellsOf e := by
                  rw [← Nat.succ_mul]; congr 1; omega
                omega
              refine ⟨[.sl l xs], .slice t e l xs ht h2 (by omega) h3, CellsRep.one (.sl b off l c us T fz xs ?_ hb (by omega) hcond.2.1 fun j v x hv hx => ?_)⟩
              · rcases Nat.lt_or_ge b w.heap.size with h' | h'
                · exact h'
                · rw [Array.getElem?_eq_none h'] at hb; cases hb
              · have hjl : j < l * P.cellsOf e := by
                  rcases Nat.lt_or_ge j xs.length with h' | h'
                  · omega
                  · rw [List.getElem?_eq_none h'] at hx; cases hx
                refine h1.2 j v x ?_ hx
                have hfl : (List.range l).flatMap (fun i => ((us.toList.drop (off + i * P.cellsOf e)).take (P.cellsOf e))) = (us.toList.drop off).take (l * P.cellsOf e) := by
                  have key : ∀ m, (List.range m).flatMap (fun i => ((us.toList.drop (off + i * P.cellsOf e)).take (P.cellsOf e))) = (us.toList.drop off).take (m * P.cellsOf e) := by
                    intro m
                    induction m with
                    | zero => simp
                    | succ m ihm =>
                      rw [List.range_succ, List.flatMap_append, ihm]
                      simp only [List.flatMap_cons, List.flatMap_nil, List.append_nil]
                      rw [Nat.add_mul, Nat.one_mul, List.take_add, List.drop_drop]
                  exact key l
                rw [hfl, List.getElem?_take, if_pos hjl, List.getElem?_drop, Array.getElem?_toList]
                exact hv
      | _ =>
        have : ∃ v, cs = [v] := by
          unfold DataW.trod at h
          rw [ht] at h
          simp only [] at h
          first
            | (cases h; done)
            | (split at h <;> first | (cases h; done) | exact ⟨_, rfl⟩ | simp_all)
        obtain ⟨v, hv⟩ := this
        exact other v hv rfl

end
end Go.Lg

/-
  What comes in, opened: from 'Ty' to Lean values, for numbers, bools, texts, structs, slices.
-/
set_option linter.unusedSimpArgs false
set_option linter.unusedVariables false
namespace Go.Lg
open Go Go.RowKit

def kindF (P : Program) (t : TypeId) : Option IntKind := match P.underlying t with | some (.int k) => some k | _ => none
def boolF (P : Program) (t : TypeId) : Bool := match P.underlying t with | some .bool => true | _ => false
def strF (P : Program) (t : TypeId) : Bool := match P.underlying t with | some .string => true | _ => false
def stF (P : Program) (t : TypeId) : Option (List TypeId) := match P.underlying t with | some (.struct fs) => if tileOk P t then some (fs.toList.map (·.type)) else none | _ => none
def slF (P : Program) (t : TypeId) : Option (TypeId × Nat) := match P.underlying t with | some (.slice e) => some (e, P.cellsOf e) | _ => none
def arF (P : Program) (t : TypeId) : Option (Nat × TypeId × Nat) := match P.underlying t with | some (.array n e) => some (n, e, P.cellsOf e) | _ => none

/-- Cells in pieces, each with its type. -/
def Pcs (Q : TypeId → List V → Prop) : List TypeId → List V → Prop
  | [], xs => xs = []
  | t :: r, xs => ∃ p q, xs = p ++ q ∧ Q t p ∧ Pcs Q r q

section
variable {P : Program}

theorem pcs_of {Q : TypeId → List V → Prop} {xs : List V} : ∀ (fs : List Field) (o n : Nat), tileF P o fs = some n → xs.length = n → (∀ f ∈ fs, Q f.type ((xs.drop f.offset).take (P.cellsOf f.type))) → Pcs Q (fs.map (·.type)) (xs.drop o)
  | [], o, n, h, hl, _ => by
    cases h
    simp only [List.map_nil, Pcs]
    exact List.drop_eq_nil_of_le (by omega)
  | f :: r, o, n, h, hl, hf => by
    simp only [tileF] at h
    split at h
    case isFalse => cases h
    rename_i ho
    have h1 := hf f (List.mem_cons_self ..)
    rw [ho] at h1
    refine ⟨_, _, ?_, h1, pcs_of r _ n h hl fun g hg => hf g (List.mem_cons_of_mem _ hg)⟩
    rw [← List.drop_drop, List.take_append_drop]

theorem Ty.st {t : TypeId} {xs : List V} {ts : List TypeId} (h : Ty P t xs) (hs : stF P t = some ts) : Pcs (Ty P) ts xs := by
  unfold stF at hs
  cases h with
  | struct _ fs _ hu hl hf =>
    simp only [hu] at hs
    split at hs
    case isFalse => cases hs
    rename_i ht
    cases hs
    simp only [tileOk, hu, beq_iff_eq] at ht
    have := pcs_of (Q := Ty P) (xs := xs) fs.toList 0 _ ht hl hf
    simpa using this
  | other _ d hu ho => simp only [hu] at hs; cases d <;> simp_all [otherOk]
  | _ => simp_all

def IsT (P : Program) (t : TypeId) {α : Type} (f : α → List V) (ok : α → Prop) : Prop := ∀ xs, Ty P t xs → ∃ x, xs = f x ∧ ok x

def encL {α : Type} (f : α → List V) (l : List α) : V := .sl l.length (l.flatMap f)

theorem isInt {t : TypeId} (h : kindF P t = some .i64) : IsT P t (fun n : Int => [.int .i64 n]) InI64 := by
  intro xs hx
  unfold kindF at h
  cases hx with
  | int _ k n hu hw =>
    simp only [hu, Option.some.injEq] at h
    subst h
    refine ⟨n, rfl, ?_⟩
    simp [Lit.wf, IntKind.min, IntKind.max, IntKind.signed, IntKind.bits] at hw
    exact hw
  | other _ d hu ho => simp only [hu] at h; cases d <;> simp_all [otherOk]
  | _ => simp_all
theorem isBool {t : TypeId} (h : boolF P t = true) : IsT P t (fun b : Bool => [.bool b]) (fun _ => True) := by
  intro xs hx
  unfold boolF at h
  cases hx with
  | bool _ b hu => exact ⟨b, rfl, trivial⟩
  | other _ d hu ho => simp only [hu] at h; cases d <;> simp_all [otherOk]
  | _ => simp_all
theorem isStr {t : TypeId} (h : strF P t = true) : IsT P t (fun s : ByteArray => [.str s]) (fun s => s.size ≤ maxLen) := by
  intro xs hx
  unfold strF at h
  cases hx with
  | str _ b hu hs => exact ⟨b, rfl, hs⟩
  | other _ d hu ho => simp only [hu] at h; cases d <;> simp_all [otherOk]
  | _ => simp_all

theorem Ty.sl {t e : TypeId} {s : Nat} {xs : List V} (h : Ty P t xs) (hs : slF P t = some (e, s)) (hp : 0 < s) :
    ∃ n cs, xs = [.sl n cs] ∧ cs.length = n * s ∧ n ≤ maxLen ∧ ∀ i, i < n → Ty P e ((cs.drop (i * s)).take s) := by
  unfold slF at hs
  cases h with
  | slice _ e' n cs hu hl hn hi =>
    simp only [hu, Option.some.injEq, Prod.mk.injEq] at hs
    obtain ⟨rfl, rfl⟩ := hs
    exact ⟨n, cs, rfl, hl, hn, hi⟩
  | other _ d hu ho =>
    simp only [hu] at hs
    cases d with
    | slice e' =>
      simp only [Option.some.injEq, Prod.mk.injEq] at hs
      obtain ⟨rfl, rfl⟩ := hs
      simp [otherOk] at ho; omega
    | _ => cases hs
  | _ => simp_all

theorem list_of_pcs {α : Type} {f : α → List V} {ok : α → Prop} {s : Nat} (hf : ∀ x, (f x).length = s) : ∀ (n : Nat) (cs : List V), cs.length = n * s → (∀ i, i < n → ∃ x, (cs.drop (i * s)).take s = f x ∧ ok x) →
    ∃ l : List α, l.length = n ∧ cs = l.flatMap f ∧ ∀ x ∈ l, ok x
  | 0, cs, hl, _ => ⟨[], rfl, List.eq_nil_of_length_eq_zero (by omega), fun x h => by cases h⟩
  | n + 1, cs, hl, h => by
    obtain ⟨x, hx, hox⟩ := h 0 (by omega)
    have hl' : (cs.drop s).length = n * s := by rw [List.length_drop, hl, Nat.add_mul]; omega
    obtain ⟨l, h1, h2, h3⟩ := list_of_pcs hf n (cs.drop s) hl' fun i hi => by
      obtain ⟨y, hy, hoy⟩ := h (i + 1) (by omega)
      refine ⟨y, ?_, hoy⟩
      rw [List.drop_drop, show s + i * s = (i + 1) * s by rw [Nat.add_mul]; omega]
      exact hy
    refine ⟨x :: l, by simp [h1], ?_, fun y hy => ?_⟩
    · simp only [Nat.zero_mul, List.drop_zero] at hx
      rw [List.flatMap_cons, ← h2, ← hx, List.take_append_drop]
    · rcases List.mem_cons.1 hy with rfl | hy
      · exact hox
      · exact h3 y hy

theorem isSl {t e : TypeId} {s : Nat} {α : Type} {f : α → List V} {ok : α → Prop} (h : slF P t = some (e, s)) (hp : 0 < s) (hf : ∀ x, (f x).length = s) (he : IsT P e f ok) :
    IsT P t (fun l : List α => [encL f l]) (fun l => l.length ≤ maxLen ∧ ∀ x ∈ l, ok x) := by
  intro xs hx
  obtain ⟨n, cs, rfl, hl, hn, hi⟩ := hx.sl h hp
  obtain ⟨l, h1, h2, h3⟩ := list_of_pcs hf n cs hl fun i h => he _ (hi i h)
  exact ⟨l, by simp only [encL]; rw [← h2, h1], by omega, h3⟩

/-- An array, as a list. -/
theorem isAr {t e : TypeId} {s n : Nat} {α : Type} {f : α → List V} {ok : α → Prop} (h : arF P t = some (n, e, s)) (ht : tileOk P t = true) (hf : ∀ x, (f x).length = s) (he : IsT P e f ok) :
    IsT P t (fun l : List α => l.flatMap f) (fun l => l.length = n ∧ ∀ x ∈ l, ok x) := by
  intro xs hx
  unfold arF at h
  cases hx with
  | array _ n' e' _ hu hl hi =>
    simp only [hu, Option.some.injEq, Prod.mk.injEq] at h
    obtain ⟨rfl, rfl, rfl⟩ := h
    simp only [tileOk, hu, beq_iff_eq] at ht
    obtain ⟨l, h1, h2, h3⟩ := list_of_pcs hf n' xs (by omega) fun i h => he _ (hi i h)
    exact ⟨l, h2, h1, h3⟩
  | other _ d hu ho => simp only [hu] at h; cases d <;> simp_all [otherOk]
  | _ => simp_all

/-! Reading lists of records. -/
theorem flat_len {α : Type} {f : α → List V} {s : Nat} (hf : ∀ x, (f x).length = s) : ∀ (l : List α), (l.flatMap f).length = l.length * s
  | [] => by simp
  | x :: l => by rw [List.flatMap_cons, List.length_append, flat_len hf l, hf, List.length_cons, Nat.add_mul]; omega

theorem flat_rec {α : Type} {f : α → List V} {s : Nat} (hf : ∀ x, (f x).length = s) : ∀ (l : List α) (i : Nat) (h : i < l.length), ((l.flatMap f).drop (i * s)).take s = f l[i]
  | x :: l, 0, _ => by
    rw [List.flatMap_cons, Nat.zero_mul, List.drop_zero, ← hf x, List.take_left]; rfl
  | x :: l, i + 1, h => by
    rw [List.flatMap_cons, Nat.add_mul, Nat.one_mul, Nat.add_comm, List.drop_append, hf, List.drop_eq_nil_of_le (by rw [hf]; omega), List.nil_append, Nat.add_sub_cancel_left]
    exact flat_rec hf l i (by simpa using h)

theorem flat_cell {α : Type} {f : α → List V} {s : Nat} (hf : ∀ x, (f x).length = s) : ∀ (l : List α) (i j : Nat) (h : i < l.length), j < s → (l.flatMap f)[i * s + j]? = (f l[i])[j]?
  | x :: l, 0, j, _, hj => by
    rw [List.flatMap_cons, Nat.zero_mul, Nat.zero_add, List.getElem?_append_left (by rw [hf]; exact hj)]; rfl
  | x :: l, i + 1, j, h, hj => by
    rw [List.flatMap_cons, List.getElem?_append_right (by rw [hf, Nat.add_mul]; omega), hf, show (i + 1) * s + j - s = i * s + j by rw [Nat.add_mul]; omega]
    exact flat_cell hf l i j (by simpa using h) hj

end
end Go.Lg

/-
  The program's plain types as Lean values, and their cells: types, paths, operands, values, instructions, functions as points.
-/
set_option linter.unusedSimpArgs false
set_option linter.unusedVariables false
namespace Go.Lg
open Go Go.RowKit

def cI (n : Int) : List V := [.int .i64 n]
def cB (b : Bool) : List V := [.bool b]
def cS (s : ByteArray) : List V := [.str s]

structure MPath where
  loc : Int
  steps : List ByteArray
@[irreducible] def MPath.cells (p : MPath) : List V := [.int .i64 p.loc, encL cS p.steps]
def MPath.ok (p : MPath) : Prop := InI64 p.loc ∧ p.steps.length ≤ maxLen ∧ ∀ s ∈ p.steps, s.size ≤ maxLen

structure MOper where
  kind : Int
  n : Int
  path : MPath
@[irreducible] def MOper.cells (o : MOper) : List V := [.int .i64 o.kind, .int .i64 o.n, .int .i64 o.path.loc, encL cS o.path.steps]
def MOper.ok (o : MOper) : Prop := InI64 o.kind ∧ InI64 o.n ∧ o.path.ok

structure MVal where
  kind : Int
  a : MOper
  b : MOper
  op : Int
  path : MPath
  region : Int
  name : ByteArray
  regions : List Int
  args : List MOper
@[irreducible] def MVal.cells (v : MVal) : List V := [.int .i64 v.kind, .int .i64 v.a.kind, .int .i64 v.a.n, .int .i64 v.a.path.loc, encL cS v.a.path.steps, .int .i64 v.b.kind, .int .i64 v.b.n, .int .i64 v.b.path.loc, encL cS v.b.path.steps,
  .int .i64 v.op, .int .i64 v.path.loc, encL cS v.path.steps, .int .i64 v.region, .str v.name, encL cI v.regions, encL MOper.cells v.args]
def MVal.ok (v : MVal) : Prop := InI64 v.kind ∧ v.a.ok ∧ v.b.ok ∧ InI64 v.op ∧ v.path.ok ∧ InI64 v.region ∧ v.name.size ≤ maxLen ∧ (v.regions.length ≤ maxLen ∧ ∀ x ∈ v.regions, InI64 x) ∧ (v.args.length ≤ maxLen ∧ ∀ x ∈ v.args, x.ok)

structure MInst where
  kind : Int
  at' : Int
  has : Bool
  to : MPath
  val : MVal
  next : List Int
@[irreducible] def MInst.cells (x : MInst) : List V := [.int .i64 x.kind, .int .i64 x.at', .bool x.has, .int .i64 x.to.loc, encL cS x.to.steps, .int .i64 x.val.kind, .int .i64 x.val.a.kind, .int .i64 x.val.a.n, .int .i64 x.val.a.path.loc, encL cS x.val.a.path.steps,
  .int .i64 x.val.b.kind, .int .i64 x.val.b.n, .int .i64 x.val.b.path.loc, encL cS x.val.b.path.steps, .int .i64 x.val.op, .int .i64 x.val.path.loc, encL cS x.val.path.steps, .int .i64 x.val.region, .str x.val.name, encL cI x.val.regions, encL MOper.cells x.val.args, encL cI x.next]
def MInst.ok (x : MInst) : Prop := InI64 x.kind ∧ InI64 x.at' ∧ x.to.ok ∧ x.val.ok ∧ x.next.length ≤ maxLen ∧ ∀ y ∈ x.next, InI64 y

inductive RT where
  | mk (kind : Int) (name : ByteArray) (regions : List Int) (elem : List RT)
def RT.kind : RT → Int | .mk k _ _ _ => k
def RT.name : RT → ByteArray | .mk _ n _ _ => n
def RT.regions : RT → List Int | .mk _ _ r _ => r
def RT.elem : RT → List RT | .mk _ _ _ e => e
mutual
def RT.cells : RT → List V
  | .mk k n r e => [.int .i64 k, .str n, encL cI r, .sl e.length (RT.cellsL e)]
def RT.cellsL : List RT → List V
  | [] => []
  | x :: r => RT.cells x ++ RT.cellsL r
end
mutual
def RT.ok : RT → Prop
  | .mk k n r e => InI64 k ∧ n.size ≤ maxLen ∧ (r.length ≤ maxLen ∧ ∀ x ∈ r, InI64 x) ∧ e.length ≤ maxLen ∧ RT.okL e
def RT.okL : List RT → Prop
  | [] => True
  | x :: r => RT.ok x ∧ RT.okL r
end
theorem RT.cellsL_eq : ∀ l : List RT, RT.cellsL l = l.flatMap RT.cells
  | [] => rfl
  | x :: r => by rw [RT.cellsL, RT.cellsL_eq r]; rfl
theorem RT.okL_iff : ∀ l : List RT, RT.okL l ↔ ∀ x ∈ l, x.ok
  | [] => by simp [RT.okL]
  | x :: r => by rw [RT.okL, RT.okL_iff r]; simp
theorem RT.cells_eq (t : RT) : t.cells = [.int .i64 t.kind, .str t.name, encL cI t.regions, encL RT.cells t.elem] := by
  cases t with
  | mk k n r e => rw [RT.cells, RT.cellsL_eq]; rfl
theorem RT.ok_iff (t : RT) : t.ok ↔ InI64 t.kind ∧ t.name.size ≤ maxLen ∧ (t.regions.length ≤ maxLen ∧ ∀ x ∈ t.regions, InI64 x) ∧ t.elem.length ≤ maxLen ∧ ∀ x ∈ t.elem, x.ok := by
  cases t with
  | mk k n r e => rw [RT.ok, RT.okL_iff]; rfl

structure MLocal where
  name : ByteArray
  type : RT
  param : Bool
@[irreducible] def MLocal.cells (l : MLocal) : List V := [.str l.name, .int .i64 l.type.kind, .str l.type.name, encL cI l.type.regions, encL RT.cells l.type.elem, .bool l.param]
def MLocal.ok (l : MLocal) : Prop := l.name.size ≤ maxLen ∧ l.type.ok

structure Mir where
  at' : Int
  free : Int
  regions : Int
  known : List (List Int)
  locals : List MLocal
  code : List MInst
@[irreducible] def Mir.cells (m : Mir) : List V := [.int .i64 m.at', .int .i64 m.free, .int .i64 m.regions, encL (fun k : List Int => k.flatMap cI) m.known, encL MLocal.cells m.locals, encL MInst.cells m.code]
def Mir.ok (m : Mir) : Prop := InI64 m.at' ∧ InI64 m.free ∧ InI64 m.regions ∧ (m.known.length ≤ maxLen ∧ ∀ k ∈ m.known, k.length = 2 ∧ ∀ x ∈ k, InI64 x) ∧ (m.locals.length ≤ maxLen ∧ ∀ x ∈ m.locals, x.ok) ∧ (m.code.length ≤ maxLen ∧ ∀ x ∈ m.code, x.ok)

theorem cI_len (x : Int) : (cI x).length = 1 := rfl
theorem cB_len (x : Bool) : (cB x).length = 1 := rfl
theorem cS_len (x : ByteArray) : (cS x).length = 1 := rfl
theorem MPath.len (x : MPath) : x.cells.length = 2 := by simp [MPath.cells]
theorem MOper.len (x : MOper) : x.cells.length = 4 := by simp [MOper.cells]
theorem MVal.len (x : MVal) : x.cells.length = 16 := by simp [MVal.cells]
theorem MInst.len (x : MInst) : x.cells.length = 22 := by simp [MInst.cells]
theorem RT.len (x : RT) : x.cells.length = 4 := by rw [RT.cells_eq]; rfl
theorem MLocal.len (x : MLocal) : x.cells.length = 6 := by simp [MLocal.cells]
theorem Mir.len (x : Mir) : x.cells.length = 6 := by simp [Mir.cells]

theorem MOper.cells_split (o : MOper) : o.cells = cI o.kind ++ (cI o.n ++ (o.path.cells ++ [])) := by simp [MOper.cells, MPath.cells, cI]
theorem MVal.cells_split (v : MVal) : v.cells = cI v.kind ++ (v.a.cells ++ (v.b.cells ++ (cI v.op ++ (v.path.cells ++ (cI v.region ++ (cS v.name ++ ([encL cI v.regions] ++ ([encL MOper.cells v.args] ++ [])))))))) := by
  simp [MVal.cells, MOper.cells, MPath.cells, cI, cS]
theorem MInst.cells_split (x : MInst) : x.cells = cI x.kind ++ (cI x.at' ++ (cB x.has ++ (x.to.cells ++ (x.val.cells ++ ([encL cI x.next] ++ []))))) := by
  simp [MInst.cells, MVal.cells, MPath.cells, cI, cB]
theorem MLocal.cells_split (l : MLocal) : l.cells = cS l.name ++ (l.type.cells ++ (cB l.param ++ [])) := by
  simp [MLocal.cells, RT.cells_eq, cS, cB]

end Go.Lg

/-
  What comes in as a value of the program's plain types is one of the Lean values.
-/
set_option linter.unusedSimpArgs false
set_option linter.unusedVariables false
namespace Go.Proofs.Ytobhpkagbmadlaa
open Go Go.Lg Go.RowKit


theorem tyInt : IsT Try.prog 3 (fun n : Int => cI n) InI64 := isInt (by kernel_rfl)
theorem tyBool : IsT Try.prog 4 (fun n : Bool => cB n) (fun _ => True) := isBool (by kernel_rfl)
theorem tyStr : IsT Try.prog 9 (fun n : ByteArray => cS n) (fun s => s.size ≤ maxLen) := isStr (by kernel_rfl)
theorem tyInts : IsT Try.prog 33 (fun l : List Int => [encL cI l]) (fun l => l.length ≤ maxLen ∧ ∀ x ∈ l, InI64 x) := isSl (e := 3) (s := 1) (by kernel_rfl) (by decide) cI_len tyInt
theorem tyStrs : IsT Try.prog 37 (fun l : List ByteArray => [encL cS l]) (fun l => l.length ≤ maxLen ∧ ∀ x ∈ l, x.size ≤ maxLen) := isSl (e := 9) (s := 1) (by kernel_rfl) (by decide) cS_len tyStr

theorem tyPath : IsT Try.prog 39 MPath.cells MPath.ok := by
  intro xs hx
  have hp := hx.st (ts := [3, 37]) (by kernel_rfl)
  obtain ⟨_, _, rfl, h0, _, _, rfl, h1, rfl⟩ := hp
  obtain ⟨l, rfl, o0⟩ := tyInt _ h0
  obtain ⟨s, rfl, o1⟩ := tyStrs _ h1
  exact ⟨⟨l, s⟩, by simp [MPath.cells, cI], o0, o1.1, o1.2⟩

theorem tyOper : IsT Try.prog 41 MOper.cells MOper.ok := by
  intro xs hx
  have hp := hx.st (ts := [3, 3, 39]) (by kernel_rfl)
  obtain ⟨_, _, rfl, h0, _, _, rfl, h1, _, _, rfl, h2, rfl⟩ := hp
  obtain ⟨k, rfl, o0⟩ := tyInt _ h0
  obtain ⟨n, rfl, o1⟩ := tyInt _ h1
  obtain ⟨p, rfl, o2⟩ := tyPath _ h2
  exact ⟨⟨k, n, p⟩, by rw [MOper.cells_split], o0, o1, o2⟩
theorem tyOpers : IsT Try.prog 42 (fun l : List MOper => [encL MOper.cells l]) (fun l => l.length ≤ maxLen ∧ ∀ x ∈ l, x.ok) := isSl (e := 41) (s := 4) (by kernel_rfl) (by decide) MOper.len tyOper

theorem tyVal : IsT Try.prog 44 MVal.cells MVal.ok := by
  intro xs hx
  have hp := hx.st (ts := [3, 41, 41, 3, 39, 3, 9, 33, 42]) (by kernel_rfl)
  obtain ⟨_, _, rfl, h0, _, _, rfl, h1, _, _, rfl, h2, _, _, rfl, h3, _, _, rfl, h4, _, _, rfl, h5, _, _, rfl, h6, _, _, rfl, h7, _, _, rfl, h8, rfl⟩ := hp
  obtain ⟨x0, rfl, o0⟩ := tyInt _ h0
  obtain ⟨x1, rfl, o1⟩ := tyOper _ h1
  obtain ⟨x2, rfl, o2⟩ := tyOper _ h2
  obtain ⟨x3, rfl, o3⟩ := tyInt _ h3
  obtain ⟨x4, rfl, o4⟩ := tyPath _ h4
  obtain ⟨x5, rfl, o5⟩ := tyInt _ h5
  obtain ⟨x6, rfl, o6⟩ := tyStr _ h6
  obtain ⟨x7, rfl, o7⟩ := tyInts _ h7
  obtain ⟨x8, rfl, o8⟩ := tyOpers _ h8
  exact ⟨⟨x0, x1, x2, x3, x4, x5, x6, x7, x8⟩, by rw [MVal.cells_split], o0, o1, o2, o3, o4, o5, o6, o7, o8⟩

theorem tyInst : IsT Try.prog 46 MInst.cells MInst.ok := by
  intro xs hx
  have hp := hx.st (ts := [3, 3, 4, 39, 44, 33]) (by kernel_rfl)
  obtain ⟨_, _, rfl, h0, _, _, rfl, h1, _, _, rfl, h2, _, _, rfl, h3, _, _, rfl, h4, _, _, rfl, h5, rfl⟩ := hp
  obtain ⟨x0, rfl, o0⟩ := tyInt _ h0
  obtain ⟨x1, rfl, o1⟩ := tyInt _ h1
  obtain ⟨x2, rfl, o2⟩ := tyBool _ h2
  obtain ⟨x3, rfl, o3⟩ := tyPath _ h3
  obtain ⟨x4, rfl, o4⟩ := tyVal _ h4
  obtain ⟨x5, rfl, o5⟩ := tyInts _ h5
  exact ⟨⟨x0, x1, x2, x3, x4, x5⟩, by rw [MInst.cells_split], o0, o1, o3, o4, o5⟩
theorem tyInsts : IsT Try.prog 24 (fun l : List MInst => [encL MInst.cells l]) (fun l => l.length ≤ maxLen ∧ ∀ x ∈ l, x.ok) := isSl (e := 46) (s := 22) (by kernel_rfl) (by decide) MInst.len tyInst

theorem tyRT0 : ∀ (t : TypeId) (xs : List V), Ty Try.prog t xs → (t = 67 → ∃ x : RT, xs = x.cells ∧ x.ok) ∧ (t = 65 → ∃ l : List RT, xs = [encL RT.cells l] ∧ l.length ≤ maxLen ∧ ∀ x ∈ l, x.ok) := by
  intro t xs h
  induction h with
  | struct t fs cs hu hl hf ih =>
    refine ⟨fun e => ?_, fun e => ?_⟩
    · subst e
      have hs : stF Try.prog 67 = some [3, 9, 33, 65] := by kernel_rfl
      unfold stF at hs
      simp only [hu] at hs
      split at hs
      case isFalse => cases hs
      rename_i ht
      simp only [Option.some.injEq] at hs
      simp only [tileOk, hu, beq_iff_eq] at ht
      have hp := pcs_of (Q := fun t xs => Ty Try.prog t xs ∧ ((t = 67 → ∃ x : RT, xs = x.cells ∧ x.ok) ∧ (t = 65 → ∃ l : List RT, xs = [encL RT.cells l] ∧ l.length ≤ maxLen ∧ ∀ x ∈ l, x.ok))) (xs := cs) fs.toList 0 _ ht hl (fun f hm => ⟨hf f hm, ih f hm⟩)
      rw [hs, List.drop_zero] at hp
      obtain ⟨_, _, rfl, h0, _, _, rfl, h1, _, _, rfl, h2, _, _, rfl, h3, rfl⟩ := hp
      obtain ⟨x0, rfl, o0⟩ := tyInt _ h0.1
      obtain ⟨x1, rfl, o1⟩ := tyStr _ h1.1
      obtain ⟨x2, rfl, o2⟩ := tyInts _ h2.1
      obtain ⟨x3, rfl, o3⟩ := h3.2.2 rfl
      exact ⟨.mk x0 x1 x2 x3, by rw [RT.cells_eq]; rfl, (RT.ok_iff _).2 ⟨o0, o1, o2, o3⟩⟩
    · subst e
      have hs : slF Try.prog 65 = some (67, 4) := by kernel_rfl
      simp [slF, hu] at hs
  | slice t e n cs hu hl hn hi ih =>
    refine ⟨fun e => ?_, fun e => ?_⟩
    · subst e
      have hs : stF Try.prog 67 = some [3, 9, 33, 65] := by kernel_rfl
      simp [stF, hu] at hs
    · subst e
      have hs : slF Try.prog 65 = some (67, 4) := by kernel_rfl
      simp only [slF, hu, Option.some.injEq, Prod.mk.injEq] at hs
      obtain ⟨rfl, hs⟩ := hs
      rw [hs] at hl ih
      obtain ⟨l, h1, h2, h3⟩ := list_of_pcs (f := RT.cells) (ok := RT.ok) RT.len n cs hl fun i h => (ih i h).1 rfl
      exact ⟨l, by simp only [encL]; rw [← h2, h1], by omega, h3⟩
  | bool t b hu => exact ⟨fun e => by subst e; have hs : stF Try.prog 67 = some [3, 9, 33, 65] := by kernel_rfl
                                      simp [stF, hu] at hs, fun e => by subst e; have hs : slF Try.prog 65 = some (67, 4) := by kernel_rfl
                                                                        simp [slF, hu] at hs⟩
  | int t k n hu => exact ⟨fun e => by subst e; have hs : stF Try.prog 67 = some [3, 9, 33, 65] := by kernel_rfl
                                       simp [stF, hu] at hs, fun e => by subst e; have hs : slF Try.prog 65 = some (67, 4) := by kernel_rfl
                                                                         simp [slF, hu] at hs⟩
  | str t s hu => exact ⟨fun e => by subst e; have hs : stF Try.prog 67 = some [3, 9, 33, 65] := by kernel_rfl
                                     simp [stF, hu] at hs, fun e => by subst e; have hs : slF Try.prog 65 = some (67, 4) := by kernel_rfl
                                                                       simp [slF, hu] at hs⟩
  | array t n e cs hu => exact ⟨fun e => by subst e; have hs : stF Try.prog 67 = some [3, 9, 33, 65] := by kernel_rfl
                                            simp [stF, hu] at hs, fun e => by subst e; have hs : slF Try.prog 65 = some (67, 4) := by kernel_rfl
                                                                              simp [slF, hu] at hs⟩
  | other t d hu ho => exact ⟨fun e => by subst e; have hs : stF Try.prog 67 = some [3, 9, 33, 65] := by kernel_rfl
                                          simp only [stF, hu] at hs; cases d <;> simp_all [otherOk], fun e => by subst e; have hs : slF Try.prog 65 = some (67, 4) := by kernel_rfl
                                                                                                                 simp only [slF, hu] at hs; cases d <;> simp_all [otherOk]⟩
theorem tyRT : IsT Try.prog 67 RT.cells RT.ok := fun xs h => (tyRT0 _ xs h).1 rfl

theorem tyLocal : IsT Try.prog 69 MLocal.cells MLocal.ok := by
  intro xs hx
  have hp := hx.st (ts := [9, 67, 4]) (by kernel_rfl)
  obtain ⟨_, _, rfl, h0, _, _, rfl, h1, _, _, rfl, h2, rfl⟩ := hp
  obtain ⟨x0, rfl, o0⟩ := tyStr _ h0
  obtain ⟨x1, rfl, o1⟩ := tyRT _ h1
  obtain ⟨x2, rfl, o2⟩ := tyBool _ h2
  exact ⟨⟨x0, x1, x2⟩, by rw [MLocal.cells_split], o0, o1⟩
theorem tyLocals : IsT Try.prog 23 (fun l : List MLocal => [encL MLocal.cells l]) (fun l => l.length ≤ maxLen ∧ ∀ x ∈ l, x.ok) := isSl (e := 69) (s := 6) (by kernel_rfl) (by decide) MLocal.len tyLocal

theorem tyPair : IsT Try.prog 70 (fun l : List Int => l.flatMap cI) (fun l => l.length = 2 ∧ ∀ x ∈ l, InI64 x) := isAr (e := 3) (s := 1) (by kernel_rfl) (by kernel_rfl) cI_len tyInt

theorem tyKnown : IsT Try.prog 22 (fun l : List (List Int) => [encL (fun k : List Int => k.flatMap cI) l]) (fun l => l.length ≤ maxLen ∧ ∀ k ∈ l, k.length = 2 ∧ ∀ x ∈ k, InI64 x) := by
  intro xs hx
  obtain ⟨n, cs, rfl, hl, hn, hi⟩ := hx.sl (e := 70) (s := 2) (by kernel_rfl) (by decide)
  have key : ∀ (n : Nat) (cs : List V), cs.length = n * 2 → (∀ i, i < n → Ty Try.prog 70 ((cs.drop (i * 2)).take 2)) → ∃ l : List (List Int), l.length = n ∧ cs = l.flatMap (fun k : List Int => k.flatMap cI) ∧ ∀ k ∈ l, k.length = 2 ∧ ∀ x ∈ k, InI64 x := by
    intro n
    induction n with
    | zero => intro cs hl _; exact ⟨[], rfl, List.eq_nil_of_length_eq_zero (by omega), fun x h => by cases h⟩
    | succ n ih =>
      intro cs hl h
      obtain ⟨x, hx, hox⟩ := tyPair _ (h 0 (by omega))
      obtain ⟨l, h1, h2, h3⟩ := ih (cs.drop 2) (by rw [List.length_drop, hl]; omega) fun i hi => by
        have := h (i + 1) (by omega)
        rw [List.drop_drop, show 2 + i * 2 = (i + 1) * 2 by omega]
        exact this
      refine ⟨x :: l, by simp [h1], ?_, fun y hy => ?_⟩
      · simp only [Nat.zero_mul, List.drop_zero] at hx
        rw [List.flatMap_cons, ← h2, ← hx, List.take_append_drop]
      · rcases List.mem_cons.1 hy with rfl | hy
        · exact hox
        · exact h3 y hy
  obtain ⟨l, h1, h2, h3⟩ := key n cs hl hi
  exact ⟨l, by simp only [encL]; rw [← h2, h1], by omega, h3⟩

theorem tyMir : IsT Try.prog 26 Mir.cells Mir.ok := by
  intro xs hx
  have hp := hx.st (ts := [3, 3, 3, 22, 23, 24]) (by kernel_rfl)
  obtain ⟨_, _, rfl, h0, _, _, rfl, h1, _, _, rfl, h2, _, _, rfl, h3, _, _, rfl, h4, _, _, rfl, h5, rfl⟩ := hp
  obtain ⟨x0, rfl, o0⟩ := tyInt _ h0
  obtain ⟨x1, rfl, o1⟩ := tyInt _ h1
  obtain ⟨x2, rfl, o2⟩ := tyInt _ h2
  obtain ⟨x3, rfl, o3⟩ := tyKnown _ h3
  obtain ⟨x4, rfl, o4⟩ := tyLocals _ h4
  obtain ⟨x5, rfl, o5⟩ := tyInsts _ h5
  exact ⟨⟨x0, x1, x2, x3, x4, x5⟩, by simp [Mir.cells, cI], o0, o1, o2, o3, o4, o5⟩

end Go.Proofs.Ytobhpkagbmadlaa

/-
  Reading the cells of the plain types (printed by gen_mirc.py).
-/
set_option linter.unusedSimpArgs false
set_option linter.unusedVariables false
namespace Go.Lg
open Go Go.RowKit

theorem MPath.c0 (x : MPath) : ldV false 1 x.cells 0 = some (.int .i64 x.loc) := by simp [ldV, MPath.cells]
theorem MPath.c1 (x : MPath) : ldV false 1 x.cells 1 = some (encL cS x.steps) := by simp [ldV, MPath.cells]
theorem MPath.call (x : MPath) : ldV true 2 x.cells 0 = some (.agg x.cells) := by simp only [ldV, if_true, Nat.zero_add, MPath.len, Nat.le_refl, List.drop_zero]; rw [List.take_of_length_le (by rw [MPath.len]; exact Nat.le_refl _)]
theorem MPath.snapc (x : MPath) (H : Heap) (d : Nat) : x.cells.map (snap H (d + 1)) = x.cells := by simp [MPath.cells, snap, encL]
theorem MPath.sokc (x : MPath) (H : Heap) (d : Nat) : x.cells.all (sok H (d + 1)) = true := by simp [MPath.cells, sok, encL]
theorem MPath.onec (x : MPath) : x.cells.all V.one = true := by simp [MPath.cells, V.one, encL]
theorem MPath.imvc (x : MPath) (d : Nat) : x.cells.all (imV (d + 1)) = true := by simp [MPath.cells, imV, encL]
theorem MOper.c0 (x : MOper) : ldV false 1 x.cells 0 = some (.int .i64 x.kind) := by simp [ldV, MOper.cells]
theorem MOper.c1 (x : MOper) : ldV false 1 x.cells 1 = some (.int .i64 x.n) := by simp [ldV, MOper.cells]
theorem MOper.c2 (x : MOper) : ldV false 1 x.cells 2 = some (.int .i64 x.path.loc) := by simp [ldV, MOper.cells]
theorem MOper.c3 (x : MOper) : ldV false 1 x.cells 3 = some (encL cS x.path.steps) := by simp [ldV, MOper.cells]
theorem MOper.call (x : MOper) : ldV true 4 x.cells 0 = some (.agg x.cells) := by simp only [ldV, if_true, Nat.zero_add, MOper.len, Nat.le_refl, List.drop_zero]; rw [List.take_of_length_le (by rw [MOper.len]; exact Nat.le_refl _)]
theorem MOper.s2_2 (x : MOper) : ldV true 2 x.cells 2 = some (.agg x.path.cells) := by simp [ldV, MOper.cells, MPath.cells]
theorem MOper.snapc (x : MOper) (H : Heap) (d : Nat) : x.cells.map (snap H (d + 1)) = x.cells := by simp [MOper.cells, snap, encL]
theorem MOper.sokc (x : MOper) (H : Heap) (d : Nat) : x.cells.all (sok H (d + 1)) = true := by simp [MOper.cells, sok, encL]
theorem MOper.onec (x : MOper) : x.cells.all V.one = true := by simp [MOper.cells, V.one, encL]
theorem MOper.imvc (x : MOper) (d : Nat) : x.cells.all (imV (d + 1)) = true := by simp [MOper.cells, imV, encL]
theorem MVal.c0 (x : MVal) : ldV false 1 x.cells 0 = some (.int .i64 x.kind) := by simp [ldV, MVal.cells]
theorem MVal.c1 (x : MVal) : ldV false 1 x.cells 1 = some (.int .i64 x.a.kind) := by simp [ldV, MVal.cells]
theorem MVal.c2 (x : MVal) : ldV false 1 x.cells 2 = some (.int .i64 x.a.n) := by simp [ldV, MVal.cells]
theorem MVal.c3 (x : MVal) : ldV false 1 x.cells 3 = some (.int .i64 x.a.path.loc) := by simp [ldV, MVal.cells]
theorem MVal.c4 (x : MVal) : ldV false 1 x.cells 4 = some (encL cS x.a.path.steps) := by simp [ldV, MVal.cells]
theorem MVal.c5 (x : MVal) : ldV false 1 x.cells 5 = some (.int .i64 x.b.kind) := by simp [ldV, MVal.cells]
theorem MVal.c6 (x : MVal) : ldV false 1 x.cells 6 = some (.int .i64 x.b.n) := by simp [ldV, MVal.cells]
theorem MVal.c7 (x : MVal) : ldV false 1 x.cells 7 = some (.int .i64 x.b.path.loc) := by simp [ldV, MVal.cells]
theorem MVal.c8 (x : MVal) : ldV false 1 x.cells 8 = some (encL cS x.b.path.steps) := by simp [ldV, MVal.cells]
theorem MVal.c9 (x : MVal) : ldV false 1 x.cells 9 = some (.int .i64 x.op) := by simp [ldV, MVal.cells]
theorem MVal.c10 (x : MVal) : ldV false 1 x.cells 10 = some (.int .i64 x.path.loc) := by simp [ldV, MVal.cells]
theorem MVal.c11 (x : MVal) : ldV false 1 x.cells 11 = some (encL cS x.path.steps) := by simp [ldV, MVal.cells]
theorem MVal.c12 (x : MVal) : ldV false 1 x.cells 12 = some (.int .i64 x.region) := by simp [ldV, MVal.cells]
theorem MVal.c13 (x : MVal) : ldV false 1 x.cells 13 = some (.str x.name) := by simp [ldV, MVal.cells]
theorem MVal.c14 (x : MVal) : ldV false 1 x.cells 14 = some (encL cI x.regions) := by simp [ldV, MVal.cells]
theorem MVal.c15 (x : MVal) : ldV false 1 x.cells 15 = some (encL MOper.cells x.args) := by simp [ldV, MVal.cells]
theorem MVal.call (x : MVal) : ldV true 16 x.cells 0 = some (.agg x.cells) := by simp only [ldV, if_true, Nat.zero_add, MVal.len, Nat.le_refl, List.drop_zero]; rw [List.take_of_length_le (by rw [MVal.len]; exact Nat.le_refl _)]
theorem MVal.s1_4 (x : MVal) : ldV true 4 x.cells 1 = some (.agg x.a.cells) := by simp [ldV, MVal.cells, MOper.cells]
theorem MVal.s5_4 (x : MVal) : ldV true 4 x.cells 5 = some (.agg x.b.cells) := by simp [ldV, MVal.cells, MOper.cells]
theorem MVal.s10_2 (x : MVal) : ldV true 2 x.cells 10 = some (.agg x.path.cells) := by simp [ldV, MVal.cells, MPath.cells]
theorem MVal.s3_2 (x : MVal) : ldV true 2 x.cells 3 = some (.agg x.a.path.cells) := by simp [ldV, MVal.cells, MPath.cells]
theorem MVal.s7_2 (x : MVal) : ldV true 2 x.cells 7 = some (.agg x.b.path.cells) := by simp [ldV, MVal.cells, MPath.cells]
theorem MVal.snapc (x : MVal) (H : Heap) (d : Nat) : x.cells.map (snap H (d + 1)) = x.cells := by simp [MVal.cells, snap, encL]
theorem MVal.sokc (x : MVal) (H : Heap) (d : Nat) : x.cells.all (sok H (d + 1)) = true := by simp [MVal.cells, sok, encL]
theorem MVal.onec (x : MVal) : x.cells.all V.one = true := by simp [MVal.cells, V.one, encL]
theorem MVal.imvc (x : MVal) (d : Nat) : x.cells.all (imV (d + 1)) = true := by simp [MVal.cells, imV, encL]
theorem MInst.c0 (x : MInst) : ldV false 1 x.cells 0 = some (.int .i64 x.kind) := by simp [ldV, MInst.cells]
theorem MInst.c1 (x : MInst) : ldV false 1 x.cells 1 = some (.int .i64 x.at') := by simp [ldV, MInst.cells]
theorem MInst.c2 (x : MInst) : ldV false 1 x.cells 2 = some (.bool x.has) := by simp [ldV, MInst.cells]
theorem MInst.c3 (x : MInst) : ldV false 1 x.cells 3 = some (.int .i64 x.to.loc) := by simp [ldV, MInst.cells]
theorem MInst.c4 (x : MInst) : ldV false 1 x.cells 4 = some (encL cS x.to.steps) := by simp [ldV, MInst.cells]
theorem MInst.c5 (x : MInst) : ldV false 1 x.cells 5 = some (.int .i64 x.val.kind) := by simp [ldV, MInst.cells]
theorem MInst.c6 (x : MInst) : ldV false 1 x.cells 6 = some (.int .i64 x.val.a.kind) := by simp [ldV, MInst.cells]
theorem MInst.c7 (x : MInst) : ldV false 1 x.cells 7 = some (.int .i64 x.val.a.n) := by simp [ldV, MInst.cells]
theorem MInst.c8 (x : MInst) : ldV false 1 x.cells 8 = some (.int .i64 x.val.a.path.loc) := by simp [ldV, MInst.cells]
theorem MInst.c9 (x : MInst) : ldV false 1 x.cells 9 = some (encL cS x.val.a.path.steps) := by simp [ldV, MInst.cells]
theorem MInst.c10 (x : MInst) : ldV false 1 x.cells 10 = some (.int .i64 x.val.b.kind) := by simp [ldV, MInst.cells]
theorem MInst.c11 (x : MInst) : ldV false 1 x.cells 11 = some (.int .i64 x.val.b.n) := by simp [ldV, MInst.cells]
theorem MInst.c12 (x : MInst) : ldV false 1 x.cells 12 = some (.int .i64 x.val.b.path.loc) := by simp [ldV, MInst.cells]
theorem MInst.c13 (x : MInst) : ldV false 1 x.cells 13 = some (encL cS x.val.b.path.steps) := by simp [ldV, MInst.cells]
theorem MInst.c14 (x : MInst) : ldV false 1 x.cells 14 = some (.int .i64 x.val.op) := by simp [ldV, MInst.cells]
theorem MInst.c15 (x : MInst) : ldV false 1 x.cells 15 = some (.int .i64 x.val.path.loc) := by simp [ldV, MInst.cells]
theorem MInst.c16 (x : MInst) : ldV false 1 x.cells 16 = some (encL cS x.val.path.steps) := by simp [ldV, MInst.cells]
theorem MInst.c17 (x : MInst) : ldV false 1 x.cells 17 = some (.int .i64 x.val.region) := by simp [ldV, MInst.cells]
theorem MInst.c18 (x : MInst) : ldV false 1 x.cells 18 = some (.str x.val.name) := by simp [ldV, MInst.cells]
theorem MInst.c19 (x : MInst) : ldV false 1 x.cells 19 = some (encL cI x.val.regions) := by simp [ldV, MInst.cells]
theorem MInst.c20 (x : MInst) : ldV false 1 x.cells 20 = some (encL MOper.cells x.val.args) := by simp [ldV, MInst.cells]
theorem MInst.c21 (x : MInst) : ldV false 1 x.cells 21 = some (encL cI x.next) := by simp [ldV, MInst.cells]
theorem MInst.call (x : MInst) : ldV true 22 x.cells 0 = some (.agg x.cells) := by simp only [ldV, if_true, Nat.zero_add, MInst.len, Nat.le_refl, List.drop_zero]; rw [List.take_of_length_le (by rw [MInst.len]; exact Nat.le_refl _)]
theorem MInst.s3_2 (x : MInst) : ldV true 2 x.cells 3 = some (.agg x.to.cells) := by simp [ldV, MInst.cells, MPath.cells]
theorem MInst.s5_16 (x : MInst) : ldV true 16 x.cells 5 = some (.agg x.val.cells) := by simp [ldV, MInst.cells, MVal.cells]
theorem MInst.s6_4 (x : MInst) : ldV true 4 x.cells 6 = some (.agg x.val.a.cells) := by simp [ldV, MInst.cells, MOper.cells]
theorem MInst.s10_4 (x : MInst) : ldV true 4 x.cells 10 = some (.agg x.val.b.cells) := by simp [ldV, MInst.cells, MOper.cells]
theorem MInst.s15_2 (x : MInst) : ldV true 2 x.cells 15 = some (.agg x.val.path.cells) := by simp [ldV, MInst.cells, MPath.cells]
theorem MInst.s8_2 (x : MInst) : ldV true 2 x.cells 8 = some (.agg x.val.a.path.cells) := by simp [ldV, MInst.cells, MPath.cells]
theorem MInst.s12_2 (x : MInst) : ldV true 2 x.cells 12 = some (.agg x.val.b.path.cells) := by simp [ldV, MInst.cells, MPath.cells]
theorem MInst.snapc (x : MInst) (H : Heap) (d : Nat) : x.cells.map (snap H (d + 1)) = x.cells := by simp [MInst.cells, snap, encL]
theorem MInst.sokc (x : MInst) (H : Heap) (d : Nat) : x.cells.all (sok H (d + 1)) = true := by simp [MInst.cells, sok, encL]
theorem MInst.onec (x : MInst) : x.cells.all V.one = true := by simp [MInst.cells, V.one, encL]
theorem MInst.imvc (x : MInst) (d : Nat) : x.cells.all (imV (d + 1)) = true := by simp [MInst.cells, imV, encL]
theorem RT.c0 (x : RT) : ldV false 1 x.cells 0 = some (.int .i64 x.kind) := by simp [ldV, RT.cells_eq]
theorem RT.c1 (x : RT) : ldV false 1 x.cells 1 = some (.str x.name) := by simp [ldV, RT.cells_eq]
theorem RT.c2 (x : RT) : ldV false 1 x.cells 2 = some (encL cI x.regions) := by simp [ldV, RT.cells_eq]
theorem RT.c3 (x : RT) : ldV false 1 x.cells 3 = some (encL RT.cells x.elem) := by simp [ldV, RT.cells_eq]
theorem RT.call (x : RT) : ldV true 4 x.cells 0 = some (.agg x.cells) := by simp only [ldV, if_true, Nat.zero_add, RT.len, Nat.le_refl, List.drop_zero]; rw [List.take_of_length_le (by rw [RT.len]; exact Nat.le_refl _)]
theorem RT.snapc (x : RT) (H : Heap) (d : Nat) : x.cells.map (snap H (d + 1)) = x.cells := by simp [RT.cells_eq, snap, encL]
theorem RT.sokc (x : RT) (H : Heap) (d : Nat) : x.cells.all (sok H (d + 1)) = true := by simp [RT.cells_eq, sok, encL]
theorem RT.onec (x : RT) : x.cells.all V.one = true := by simp [RT.cells_eq, V.one, encL]
theorem RT.imvc (x : RT) (d : Nat) : x.cells.all (imV (d + 1)) = true := by simp [RT.cells_eq, imV, encL]
theorem MLocal.c0 (x : MLocal) : ldV false 1 x.cells 0 = some (.str x.name) := by simp [ldV, MLocal.cells]
theorem MLocal.c1 (x : MLocal) : ldV false 1 x.cells 1 = some (.int .i64 x.type.kind) := by simp [ldV, MLocal.cells]
theorem MLocal.c2 (x : MLocal) : ldV false 1 x.cells 2 = some (.str x.type.name) := by simp [ldV, MLocal.cells]
theorem MLocal.c3 (x : MLocal) : ldV false 1 x.cells 3 = some (encL cI x.type.regions) := by simp [ldV, MLocal.cells]
theorem MLocal.c4 (x : MLocal) : ldV false 1 x.cells 4 = some (encL RT.cells x.type.elem) := by simp [ldV, MLocal.cells]
theorem MLocal.c5 (x : MLocal) : ldV false 1 x.cells 5 = some (.bool x.param) := by simp [ldV, MLocal.cells]
theorem MLocal.call (x : MLocal) : ldV true 6 x.cells 0 = some (.agg x.cells) := by simp only [ldV, if_true, Nat.zero_add, MLocal.len, Nat.le_refl, List.drop_zero]; rw [List.take_of_length_le (by rw [MLocal.len]; exact Nat.le_refl _)]
theorem MLocal.s1_4 (x : MLocal) : ldV true 4 x.cells 1 = some (.agg x.type.cells) := by simp [ldV, MLocal.cells, RT.cells_eq]
theorem MLocal.snapc (x : MLocal) (H : Heap) (d : Nat) : x.cells.map (snap H (d + 1)) = x.cells := by simp [MLocal.cells, snap, encL]
theorem MLocal.sokc (x : MLocal) (H : Heap) (d : Nat) : x.cells.all (sok H (d + 1)) = true := by simp [MLocal.cells, sok, encL]
theorem MLocal.onec (x : MLocal) : x.cells.all V.one = true := by simp [MLocal.cells, V.one, encL]
theorem MLocal.imvc (x : MLocal) (d : Nat) : x.cells.all (imV (d + 1)) = true := by simp [MLocal.cells, imV, encL]
theorem Mir.c0 (x : Mir) : ldV false 1 x.cells 0 = some (.int .i64 x.at') := by simp [ldV, Mir.cells]
theorem Mir.c1 (x : Mir) : ldV false 1 x.cells 1 = some (.int .i64 x.free) := by simp [ldV, Mir.cells]
theorem Mir.c2 (x : Mir) : ldV false 1 x.cells 2 = some (.int .i64 x.regions) := by simp [ldV, Mir.cells]
theorem Mir.c3 (x : Mir) : ldV false 1 x.cells 3 = some (encL (fun k : List Int => k.flatMap cI) x.known) := by simp [ldV, Mir.cells]
theorem Mir.c4 (x : Mir) : ldV false 1 x.cells 4 = some (encL MLocal.cells x.locals) := by simp [ldV, Mir.cells]
theorem Mir.c5 (x : Mir) : ldV false 1 x.cells 5 = some (encL MInst.cells x.code) := by simp [ldV, Mir.cells]
theorem Mir.call (x : Mir) : ldV true 6 x.cells 0 = some (.agg x.cells) := by simp only [ldV, if_true, Nat.zero_add, Mir.len, Nat.le_refl, List.drop_zero]; rw [List.take_of_length_le (by rw [Mir.len]; exact Nat.le_refl _)]
theorem Mir.snapc (x : Mir) (H : Heap) (d : Nat) : x.cells.map (snap H (d + 1)) = x.cells := by simp [Mir.cells, snap, encL]
theorem Mir.sokc (x : Mir) (H : Heap) (d : Nat) : x.cells.all (sok H (d + 1)) = true := by simp [Mir.cells, sok, encL]
theorem Mir.onec (x : Mir) : x.cells.all V.one = true := by simp [Mir.cells, V.one, encL]
theorem Mir.imvc (x : Mir) (d : Nat) : x.cells.all (imV (d + 1)) = true := by simp [Mir.cells, imV, encL]

theorem ld_flat {α : Type} {f : α → List V} {s : Nat} (hf : ∀ x, (f x).length = s) {l : List α} {i j n : Nat} {agg : Bool} (h : i < l.length) (hj : j + n ≤ s) (hn : 0 < n) : ldV agg n (l.flatMap f) (i * s + j) = ldV agg n (f l[i]) j := by
  unfold ldV
  cases agg with
  | false => simp only [Bool.false_eq_true, if_false]; exact flat_cell hf l i j h (by omega)
  | true =>
    have hm : i * s + s ≤ l.length * s := by
      have := Nat.mul_le_mul_right s (show i + 1 ≤ l.length by omega)
      rw [Nat.add_mul] at this; omega
    simp only [if_true]
    rw [if_pos (by rw [flat_len hf]; omega), if_pos (by rw [hf]; exact hj), ← flat_rec hf l i h, ← List.drop_drop, List.drop_take, List.take_take, Nat.min_eq_left (by omega)]

theorem ld_flat0 {α : Type} {f : α → List V} {s : Nat} (hf : ∀ x, (f x).length = s) {l : List α} {i n : Nat} {agg : Bool} (h : i < l.length) (hj : n ≤ s) (hn : 0 < n) : ldV agg n (l.flatMap f) (i * s) = ldV agg n (f l[i]) 0 :=
  ld_flat hf (j := 0) h (by omega) hn

theorem ld_cI {l : List Int} {i : Nat} (h : i < l.length) : ldV false 1 (l.flatMap cI) i = some (.int .i64 l[i]) := by
  have := ld_flat0 (agg := false) (n := 1) cI_len h (by decide) (by decide)
  rw [Nat.mul_one] at this; rw [this]; rfl
theorem ld_cB {l : List Bool} {i : Nat} (h : i < l.length) : ldV false 1 (l.flatMap cB) i = some (.bool l[i]) := by
  have := ld_flat0 (agg := false) (n := 1) cB_len h (by decide) (by decide)
  rw [Nat.mul_one] at this; rw [this]; rfl
theorem ld_cS {l : List ByteArray} {i : Nat} (h : i < l.length) : ldV false 1 (l.flatMap cS) i = some (.str l[i]) := by
  have := ld_flat0 (agg := false) (n := 1) cS_len h (by decide) (by decide)
  rw [Nat.mul_one] at this; rw [this]; rfl

theorem ld_one (v : V) : ldV false 1 [v] 0 = some v := rfl
theorem ld_cI0 (n : Int) : ldV false 1 (cI n) 0 = some (.int .i64 n) := rfl

theorem MInst.ld {l : List MInst} {i j n : Nat} {agg : Bool} (h : i < l.length) (hj : j + n ≤ 22) (hn : 0 < n) : ldV agg n (l.flatMap MInst.cells) (i * 22 + j) = ldV agg n l[i].cells j := ld_flat MInst.len h hj hn
theorem MInst.ld0 {l : List MInst} {i n : Nat} {agg : Bool} (h : i < l.length) (hj : n ≤ 22) (hn : 0 < n) : ldV agg n (l.flatMap MInst.cells) (i * 22) = ldV agg n l[i].cells 0 := ld_flat0 MInst.len h hj hn
theorem MLocal.ld {l : List MLocal} {i j n : Nat} {agg : Bool} (h : i < l.length) (hj : j + n ≤ 6) (hn : 0 < n) : ldV agg n (l.flatMap MLocal.cells) (i * 6 + j) = ldV agg n l[i].cells j := ld_flat MLocal.len h hj hn
theorem MLocal.ld0 {l : List MLocal} {i n : Nat} {agg : Bool} (h : i < l.length) (hj : n ≤ 6) (hn : 0 < n) : ldV agg n (l.flatMap MLocal.cells) (i * 6) = ldV agg n l[i].cells 0 := ld_flat0 MLocal.len h hj hn
theorem MOper.ld {l : List MOper} {i j n : Nat} {agg : Bool} (h : i < l.length) (hj : j + n ≤ 4) (hn : 0 < n) : ldV agg n (l.flatMap MOper.cells) (i * 4 + j) = ldV agg n l[i].cells j := ld_flat MOper.len h hj hn
theorem MOper.ld0 {l : List MOper} {i n : Nat} {agg : Bool} (h : i < l.length) (hj : n ≤ 4) (hn : 0 < n) : ldV agg n (l.flatMap MOper.cells) (i * 4) = ldV agg n l[i].cells 0 := ld_flat0 MOper.len h hj hn
theorem RT.ld {l : List RT} {i j n : Nat} {agg : Bool} (h : i < l.length) (hj : j + n ≤ 4) (hn : 0 < n) : ldV agg n (l.flatMap RT.cells) (i * 4 + j) = ldV agg n l[i].cells j := ld_flat RT.len h hj hn
theorem RT.ld0 {l : List RT} {i n : Nat} {agg : Bool} (h : i < l.length) (hj : n ≤ 4) (hn : 0 < n) : ldV agg n (l.flatMap RT.cells) (i * 4) = ldV agg n l[i].cells 0 := ld_flat0 RT.len h hj hn
theorem MPath.ld {l : List MPath} {i j n : Nat} {agg : Bool} (h : i < l.length) (hj : j + n ≤ 2) (hn : 0 < n) : ldV agg n (l.flatMap MPath.cells) (i * 2 + j) = ldV agg n l[i].cells j := ld_flat MPath.len h hj hn
theorem MPath.ld0 {l : List MPath} {i n : Nat} {agg : Bool} (h : i < l.length) (hj : n ≤ 2) (hn : 0 < n) : ldV agg n (l.flatMap MPath.cells) (i * 2) = ldV agg n l[i].cells 0 := ld_flat0 MPath.len h hj hn

theorem setCells_all {cs xs : List V} (h : cs.length = xs.length) : setCells cs 0 xs = xs := by
  simp [setCells, h]
end Go.Lg

/-
  Lists of numbers, bools, texts as cells.
-/
set_option linter.unusedSimpArgs false
set_option linter.unusedVariables false
namespace Go.Lg
open Go Go.RowKit

theorem li_len (l : List Int) : (l.flatMap cI).length = l.length := by rw [flat_len cI_len, Nat.mul_one]
theorem li_snap (H : Heap) (d : Nat) (l : List Int) : (l.flatMap cI).map (snap H (d + 1)) = l.flatMap cI := by
  induction l with
  | nil => rfl
  | cons x r ih => rw [List.flatMap_cons, List.map_append, ih]; rfl
theorem li_sok (H : Heap) (d : Nat) (l : List Int) : (l.flatMap cI).all (sok H (d + 1)) = true := by
  induction l with
  | nil => rfl
  | cons x r ih => rw [List.flatMap_cons, List.all_append, ih]; rfl
theorem li_one (l : List Int) : (l.flatMap cI).all V.one = true := by
  induction l with
  | nil => rfl
  | cons x r ih => rw [List.flatMap_cons, List.all_append, ih]; rfl
theorem li_imv (d : Nat) (l : List Int) : (l.flatMap cI).all (imV d) = true := by
  induction l with
  | nil => rfl
  | cons x r ih => rw [List.flatMap_cons, List.all_append, ih]; cases d <;> rfl
theorem li_flat (d : Nat) (l : List Int) : (l.flatMap cI).all (flat d) = true := by
  induction l with
  | nil => rfl
  | cons x r ih => rw [List.flatMap_cons, List.all_append, ih]; cases d <;> rfl
theorem li_take {l : List Int} {n : Nat} (h : l.length ≤ n) : (l.flatMap cI).take n = l.flatMap cI := List.take_of_length_le (by rw [li_len]; exact h)
theorem li_set {l : List Int} {k : Nat} {v : Int} (h : k < l.length) : setCells (l.flatMap cI) k [.int .i64 v] = (l.set k v).flatMap cI := by
  induction l generalizing k with
  | nil => cases h
  | cons x r ih =>
    cases k with
    | zero => simp [setCells, cI]
    | succ k =>
      have := ih (k := k) (by simpa using h)
      simp only [setCells, List.flatMap_cons, List.set_cons_succ, cI, List.cons_append, List.nil_append, List.length_singleton, List.take_succ_cons] at this ⊢
      rw [show k + 1 + 1 = (k + 1) + 1 from rfl, List.drop_succ_cons, this]
theorem li_app (l : List Int) (x : Int) : l.flatMap cI ++ [.int .i64 x] = (l ++ [x]).flatMap cI := by rw [List.flatMap_append]; rfl
theorem li_mk (n : Nat) : (List.replicate n [V.int .i64 0]).flatten = (List.replicate n (0 : Int)).flatMap cI := by rw [List.flatMap_def, List.map_replicate]; rfl
theorem lb_len (l : List Bool) : (l.flatMap cB).length = l.length := by rw [flat_len cB_len, Nat.mul_one]
theorem lb_snap (H : Heap) (d : Nat) (l : List Bool) : (l.flatMap cB).map (snap H (d + 1)) = l.flatMap cB := by
  induction l with
  | nil => rfl
  | cons x r ih => rw [List.flatMap_cons, List.map_append, ih]; rfl
theorem lb_sok (H : Heap) (d : Nat) (l : List Bool) : (l.flatMap cB).all (sok H (d + 1)) = true := by
  induction l with
  | nil => rfl
  | cons x r ih => rw [List.flatMap_cons, List.all_append, ih]; rfl
theorem lb_one (l : List Bool) : (l.flatMap cB).all V.one = true := by
  induction l with
  | nil => rfl
  | cons x r ih => rw [List.flatMap_cons, List.all_append, ih]; rfl
theorem lb_imv (d : Nat) (l : List Bool) : (l.flatMap cB).all (imV d) = true := by
  induction l with
  | nil => rfl
  | cons x r ih => rw [List.flatMap_cons, List.all_append, ih]; cases d <;> rfl
theorem lb_flat (d : Nat) (l : List Bool) : (l.flatMap cB).all (flat d) = true := by
  induction l with
  | nil => rfl
  | cons x r ih => rw [List.flatMap_cons, List.all_append, ih]; cases d <;> rfl
theorem lb_take {l : List Bool} {n : Nat} (h : l.length ≤ n) : (l.flatMap cB).take n = l.flatMap cB := List.take_of_length_le (by rw [lb_len]; exact h)
theorem lb_set {l : List Bool} {k : Nat} {v : Bool} (h : k < l.length) : setCells (l.flatMap cB) k [.bool v] = (l.set k v).flatMap cB := by
  induction l generalizing k with
  | nil => cases h
  | cons x r ih =>
    cases k with
    | zero => simp [setCells, cB]
    | succ k =>
      have := ih (k := k) (by simpa using h)
      simp only [setCells, List.flatMap_cons, List.set_cons_succ, cB, List.cons_append, List.nil_append, List.length_singleton, List.take_succ_cons] at this ⊢
      rw [show k + 1 + 1 = (k + 1) + 1 from rfl, List.drop_succ_cons, this]
theorem lb_app (l : List Bool) (x : Bool) : l.flatMap cB ++ [.bool x] = (l ++ [x]).flatMap cB := by rw [List.flatMap_append]; rfl
theorem lb_mk (n : Nat) : (List.replicate n [V.bool false]).flatten = (List.replicate n (false : Bool)).flatMap cB := by rw [List.flatMap_def, List.map_replicate]; rfl
theorem ls_len (l : List ByteArray) : (l.flatMap cS).length = l.length := by rw [flat_len cS_len, Nat.mul_one]
theorem ls_snap (H : Heap) (d : Nat) (l : List ByteArray) : (l.flatMap cS).map (snap H (d + 1)) = l.flatMap cS := by
  induction l with
  | nil => rfl
  | cons x r ih => rw [List.flatMap_cons, List.map_append, ih]; rfl
theorem ls_sok (H : Heap) (d : Nat) (l : List ByteArray) : (l.flatMap cS).all (sok H (d + 1)) = true := by
  induction l with
  | nil => rfl
  | cons x r ih => rw [List.flatMap_cons, List.all_append, ih]; rfl
theorem ls_one (l : List ByteArray) : (l.flatMap cS).all V.one = true := by
  induction l with
  | nil => rfl
  | cons x r ih => rw [List.flatMap_cons, List.all_append, ih]; rfl
theorem ls_imv (d : Nat) (l : List ByteArray) : (l.flatMap cS).all (imV d) = true := by
  induction l with
  | nil => rfl
  | cons x r ih => rw [List.flatMap_cons, List.all_append, ih]; cases d <;> rfl
theorem ls_flat (d : Nat) (l : List ByteArray) : (l.flatMap cS).all (flat d) = true := by
  induction l with
  | nil => rfl
  | cons x r ih => rw [List.flatMap_cons, List.all_append, ih]; cases d <;> rfl
theorem ls_take {l : List ByteArray} {n : Nat} (h : l.length ≤ n) : (l.flatMap cS).take n = l.flatMap cS := List.take_of_length_le (by rw [ls_len]; exact h)
theorem ls_set {l : List ByteArray} {k : Nat} {v : ByteArray} (h : k < l.length) : setCells (l.flatMap cS) k [.str v] = (l.set k v).flatMap cS := by
  induction l generalizing k with
  | nil => cases h
  | cons x r ih =>
    cases k with
    | zero => simp [setCells, cS]
    | succ k =>
      have := ih (k := k) (by simpa using h)
      simp only [setCells, List.flatMap_cons, List.set_cons_succ, cS, List.cons_append, List.nil_append, List.length_singleton, List.take_succ_cons] at this ⊢
      rw [show k + 1 + 1 = (k + 1) + 1 from rfl, List.drop_succ_cons, this]
theorem ls_app (l : List ByteArray) (x : ByteArray) : l.flatMap cS ++ [.str x] = (l ++ [x]).flatMap cS := by rw [List.flatMap_append]; rfl
end Go.Lg
