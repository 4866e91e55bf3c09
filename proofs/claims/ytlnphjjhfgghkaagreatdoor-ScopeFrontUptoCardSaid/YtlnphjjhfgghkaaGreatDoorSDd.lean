/-
  LgV LgR LgS MirA MirC LgW LgX LgY LgZ MpR Soa Fo Shr Vb Big Bih Sob: put together.
-/
import Derived.Test.YtlnphjjhfgghkaaGreatDoorSDc
import GoSem.ClaimChange
import Derived.ChangeArms
import Derived.OpenShut
import Derived.Lib.SmallJoins
import Derived.Test.YtlnphjjhfgghkaaGreatDoorProg
set_option linter.unusedSimpArgs false
set_option linter.unusedVariables false
namespace Go.Lg
open Go Go.RowKit
theorem VC0:type_of% @vcg_skip∧type_of% @vcg_reg∧type_of% @vcg_rego∧type_of% @vcg_seq∧type_of% @vcg_cond∧type_of% @vcg_block∧type_of% @vcg_loop∧type_of% @vcg_exit∧type_of% @vcg_ret∧type_of% @vcg_bad∧type_of% @vcg_keep∧type_of% @St.keep.eq_1∧type_of% @keepL.eq_1∧type_of% @keepL.eq_2∧type_of% @vops_nil∧type_of% @vops_cons∧type_of% @vopsM_nil∧type_of% @vopsM_cons∧type_of% @thenQ_normal∧type_of% @thenQ_exit∧type_of% @thenQ_ret∧type_of% @blockQ_normal∧type_of% @blockQ_exit∧type_of% @blockQ_ret∧type_of% @retK_normal∧type_of% @retK_ret∧type_of% @some_ex∧type_of% @vstep_none∧type_of% @vstep_some∧type_of% @vguard_bool∧type_of% @vguard_skip∧type_of% @vguardM_skip∧type_of% @gdV_true∧type_of% @gdV_false∧type_of% @vstepM_none∧type_of% @vstepM_some∧type_of% @vguardM_bool∧type_of% @gdVM_true∧type_of% @gdVM_false∧type_of% @vresM_A∧type_of% @vresM_C∧type_of% @vresM_D∧type_of% @vresM_call∧type_of% @vresM_bad∧type_of% @vres_A∧type_of% @vres_C∧type_of% @vres_D∧type_of% @vres_call∧type_of% @vres_bad∧type_of% @condV_true∧type_of% @condV_false∧type_of% @ofOpt_some∧type_of% @lop.eq_1∧type_of% @lop.eq_2∧type_of% @lop.eq_3∧type_of% @lop.eq_4∧type_of% @lop.eq_5∧type_of% @lop.eq_6∧type_of% @lop.eq_7∧type_of% @lop.eq_8 :=
  ⟨@vcg_skip,@vcg_reg,@vcg_rego,@vcg_seq,@vcg_cond,@vcg_block,@vcg_loop,@vcg_exit,@vcg_ret,@vcg_bad,@vcg_keep,@St.keep.eq_1,@keepL.eq_1,@keepL.eq_2,@vops_nil,@vops_cons,@vopsM_nil,@vopsM_cons,@thenQ_normal,@thenQ_exit,@thenQ_ret,@blockQ_normal,@blockQ_exit,@blockQ_ret,@retK_normal,@retK_ret,@some_ex,@vstep_none,@vstep_some,@vguard_bool,@vguard_skip,@vguardM_skip,@gdV_true,@gdV_false,@vstepM_none,@vstepM_some,@vguardM_bool,@gdVM_true,@gdVM_false,@vresM_A,@vresM_C,@vresM_D,@vresM_call,@vresM_bad,@vres_A,@vres_C,@vres_D,@vres_call,@vres_bad,@condV_true,@condV_false,@ofOpt_some,@lop.eq_1,@lop.eq_2,@lop.eq_3,@lop.eq_4,@lop.eq_5,@lop.eq_6,@lop.eq_7,@lop.eq_8⟩
theorem VC1:type_of% @lop.eq_9∧type_of% @lop.eq_10∧type_of% @lop.eq_11∧type_of% @lop.eq_12∧type_of% @lop.eq_13∧type_of% @lop.eq_14∧type_of% @lop.eq_15∧type_of% @lop.eq_16∧type_of% @lop.eq_17∧type_of% @lop.eq_18∧type_of% @lop.eq_19∧type_of% @lop.eq_20∧type_of% @lop.eq_21∧type_of% @lop.eq_22∧type_of% @lop.eq_23∧type_of% @lop.eq_24∧type_of% @lop.eq_25∧type_of% @lop.eq_26∧type_of% @lop.eq_27∧type_of% @lop.eq_28∧type_of% @lop.eq_29∧type_of% @lop.eq_30∧type_of% @lop.eq_31∧type_of% @lop.eq_32∧type_of% @lop.eq_33∧type_of% @lop.eq_34∧type_of% @lop.eq_35∧type_of% @lop.eq_36∧type_of% @lop.eq_37∧type_of% @lop.eq_38∧type_of% @lop.eq_39∧type_of% @lop.eq_40∧type_of% @lop.eq_41∧type_of% @lop.eq_42∧type_of% @lop.eq_43∧type_of% @lop.eq_44∧type_of% @lop.eq_45∧type_of% @lop.eq_46∧type_of% @lop.eq_47∧type_of% @lop.eq_48∧type_of% @lop.eq_49∧type_of% @lop.eq_50∧type_of% @lop.eq_51∧type_of% @lop.eq_52∧type_of% @Rd.get.eq_1∧type_of% @Rd.get.eq_2∧type_of% @lbin.eq_1∧type_of% @lbin.eq_2∧type_of% @lbin.eq_3∧type_of% @lbin.eq_4∧type_of% @lbin.eq_5∧type_of% @lbin.eq_6∧type_of% @lbin.eq_7∧type_of% @lbin.eq_8∧type_of% @lbin.eq_9∧type_of% @lbin.eq_10∧type_of% @lbin.eq_11∧type_of% @lbin.eq_12∧type_of% @lbin.eq_13∧type_of% @lbin.eq_14 :=
  ⟨@lop.eq_9,@lop.eq_10,@lop.eq_11,@lop.eq_12,@lop.eq_13,@lop.eq_14,@lop.eq_15,@lop.eq_16,@lop.eq_17,@lop.eq_18,@lop.eq_19,@lop.eq_20,@lop.eq_21,@lop.eq_22,@lop.eq_23,@lop.eq_24,@lop.eq_25,@lop.eq_26,@lop.eq_27,@lop.eq_28,@lop.eq_29,@lop.eq_30,@lop.eq_31,@lop.eq_32,@lop.eq_33,@lop.eq_34,@lop.eq_35,@lop.eq_36,@lop.eq_37,@lop.eq_38,@lop.eq_39,@lop.eq_40,@lop.eq_41,@lop.eq_42,@lop.eq_43,@lop.eq_44,@lop.eq_45,@lop.eq_46,@lop.eq_47,@lop.eq_48,@lop.eq_49,@lop.eq_50,@lop.eq_51,@lop.eq_52,@Rd.get.eq_1,@Rd.get.eq_2,@lbin.eq_1,@lbin.eq_2,@lbin.eq_3,@lbin.eq_4,@lbin.eq_5,@lbin.eq_6,@lbin.eq_7,@lbin.eq_8,@lbin.eq_9,@lbin.eq_10,@lbin.eq_11,@lbin.eq_12,@lbin.eq_13,@lbin.eq_14⟩
theorem VC2:type_of% @lbin.eq_15∧type_of% @lbin.eq_16∧type_of% @lbin.eq_17∧type_of% @lbin.eq_18∧type_of% @lbin.eq_19∧type_of% @lbin.eq_20∧type_of% @lbin.eq_21∧type_of% @lbin.eq_22∧type_of% @lbin.eq_23∧type_of% @lbin.eq_24∧type_of% @lbin.eq_25∧type_of% @lbin.eq_26∧type_of% @lconvI.eq_1∧type_of% @lconvI.eq_2∧type_of% @lload.eq_1∧type_of% @lload.eq_2∧type_of% @lload.eq_3∧type_of% @lstore.eq_1∧type_of% @lstore.eq_2∧type_of% @lnil.eq_1∧type_of% @lnil.eq_2∧type_of% @lnil.eq_3∧type_of% @leqb.eq_1∧type_of% @leqb.eq_2∧type_of% @leqp.eq_1∧type_of% @leqp.eq_2∧type_of% @leqp.eq_3∧type_of% @leqp.eq_4∧type_of% @leqi.eq_1∧type_of% @leqi.eq_2∧type_of% @leqi.eq_3∧type_of% @leqi.eq_4∧type_of% @lun.eq_1∧type_of% @lun.eq_2∧type_of% @lun.eq_3∧type_of% @lun.eq_4∧type_of% @lpick.eq_1∧type_of% @lpick.eq_2∧type_of% @lmvs.eq_1∧type_of% @lmvs.eq_2∧type_of% @lmksl.eq_1∧type_of% @lmksl.eq_2∧type_of% @lslS.eq_1∧type_of% @lslSx.eq_1∧type_of% @lslSx.eq_2∧type_of% @lslVx.eq_1∧type_of% @lsl.eq_1∧type_of% @lsl.eq_2∧type_of% @lslV.eq_1∧type_of% @lslV.eq_2∧type_of% @lslV.eq_3∧type_of% @lslV.eq_4∧type_of% @lslV.eq_5∧type_of% @lslA.eq_1∧type_of% @lslA.eq_2∧type_of% @lslA.eq_3∧type_of% @lfad.eq_1∧type_of% @lfad.eq_2∧type_of% @lfad.eq_3∧type_of% @lfld.eq_1 :=
  ⟨@lbin.eq_15,@lbin.eq_16,@lbin.eq_17,@lbin.eq_18,@lbin.eq_19,@lbin.eq_20,@lbin.eq_21,@lbin.eq_22,@lbin.eq_23,@lbin.eq_24,@lbin.eq_25,@lbin.eq_26,@lconvI.eq_1,@lconvI.eq_2,@lload.eq_1,@lload.eq_2,@lload.eq_3,@lstore.eq_1,@lstore.eq_2,@lnil.eq_1,@lnil.eq_2,@lnil.eq_3,@leqb.eq_1,@leqb.eq_2,@leqp.eq_1,@leqp.eq_2,@leqp.eq_3,@leqp.eq_4,@leqi.eq_1,@leqi.eq_2,@leqi.eq_3,@leqi.eq_4,@lun.eq_1,@lun.eq_2,@lun.eq_3,@lun.eq_4,@lpick.eq_1,@lpick.eq_2,@lmvs.eq_1,@lmvs.eq_2,@lmksl.eq_1,@lmksl.eq_2,@lslS.eq_1,@lslSx.eq_1,@lslSx.eq_2,@lslVx.eq_1,@lsl.eq_1,@lsl.eq_2,@lslV.eq_1,@lslV.eq_2,@lslV.eq_3,@lslV.eq_4,@lslV.eq_5,@lslA.eq_1,@lslA.eq_2,@lslA.eq_3,@lfad.eq_1,@lfad.eq_2,@lfad.eq_3,@lfld.eq_1⟩
theorem VC3:type_of% @lfld.eq_2∧type_of% @liaA.eq_1∧type_of% @liaA.eq_2∧type_of% @liaA.eq_3∧type_of% @liaA.eq_4∧type_of% @liaS.eq_1∧type_of% @liaS.eq_2∧type_of% @liaS.eq_3∧type_of% @liaS.eq_4∧type_of% @liaS.eq_5∧type_of% @liaS.eq_6∧type_of% @lixS.eq_1∧type_of% @lixS.eq_2∧type_of% @lixS.eq_3∧type_of% @ltas.eq_1∧type_of% @ltas.eq_2∧type_of% @ltas.eq_3∧type_of% @lext.eq_1∧type_of% @lext.eq_2∧type_of% @llen.eq_1∧type_of% @llen.eq_2∧type_of% @llen.eq_3∧type_of% @llen.eq_4∧type_of% @llen.eq_5∧type_of% @llen.eq_6∧type_of% @llen.eq_7∧type_of% @lmn.eq_1∧type_of% @lmn.eq_2∧type_of% @lcallv.eq_1∧type_of% @lcallv.eq_2∧type_of% @lappx.eq_1∧type_of% @lapp.eq_1∧type_of% @lapp.eq_2∧type_of% @lapp.eq_3∧type_of% @lenV.eq_1∧type_of% @lenV.eq_2∧type_of% @lenV.eq_3∧type_of% @lenV.eq_4∧type_of% @lenV.eq_5∧type_of% @lenV.eq_6∧type_of% @lenV.eq_7∧type_of% @loOf.eq_1∧type_of% @loOf.eq_2∧type_of% @hiOf.eq_1∧type_of% @hiOf.eq_2∧type_of% @srcOf.eq_1∧type_of% @srcOf.eq_2∧type_of% @srcOf.eq_3∧type_of% @srcOf.eq_4∧type_of% @srcOf.eq_5∧type_of% @V.cells.eq_1∧type_of% @V.cells.eq_2∧type_of% @V.known.eq_1∧type_of% @V.known.eq_2∧type_of% @isPtr.eq_1∧type_of% @isPtr.eq_2∧type_of% @isPtr.eq_3∧type_of% @partsOk.eq_1∧type_of% @partsOk.eq_2∧type_of% @fillL.eq_1 :=
  ⟨@lfld.eq_2,@liaA.eq_1,@liaA.eq_2,@liaA.eq_3,@liaA.eq_4,@liaS.eq_1,@liaS.eq_2,@liaS.eq_3,@liaS.eq_4,@liaS.eq_5,@liaS.eq_6,@lixS.eq_1,@lixS.eq_2,@lixS.eq_3,@ltas.eq_1,@ltas.eq_2,@ltas.eq_3,@lext.eq_1,@lext.eq_2,@llen.eq_1,@llen.eq_2,@llen.eq_3,@llen.eq_4,@llen.eq_5,@llen.eq_6,@llen.eq_7,@lmn.eq_1,@lmn.eq_2,@lcallv.eq_1,@lcallv.eq_2,@lappx.eq_1,@lapp.eq_1,@lapp.eq_2,@lapp.eq_3,@lenV.eq_1,@lenV.eq_2,@lenV.eq_3,@lenV.eq_4,@lenV.eq_5,@lenV.eq_6,@lenV.eq_7,@loOf.eq_1,@loOf.eq_2,@hiOf.eq_1,@hiOf.eq_2,@srcOf.eq_1,@srcOf.eq_2,@srcOf.eq_3,@srcOf.eq_4,@srcOf.eq_5,@V.cells.eq_1,@V.cells.eq_2,@V.known.eq_1,@V.known.eq_2,@isPtr.eq_1,@isPtr.eq_2,@isPtr.eq_3,@partsOk.eq_1,@partsOk.eq_2,@fillL.eq_1⟩
theorem VC4:type_of% @fillL.eq_2∧type_of% @St.put.eq_1∧type_of% @dput_some∧type_of% @dput_none∧type_of% @tupd_app∧type_of% @hupd_app∧type_of% @cupd_app∧type_of% @siteOf.eq_1∧type_of% @rvals.eq_1∧type_of% @rvals.eq_2∧type_of% @rval.eq_1∧type_of% @rval.eq_2∧type_of% @snap.eq_1∧type_of% @snap.eq_2∧type_of% @snap.eq_3∧type_of% @snap.eq_4∧type_of% @snap.eq_5∧type_of% @snap.eq_6∧type_of% @snap.eq_7∧type_of% @snap.eq_8∧type_of% @snap.eq_9∧type_of% @snap.eq_10∧type_of% @snap.eq_11∧type_of% @sok.eq_1∧type_of% @sok.eq_2∧type_of% @sok.eq_3∧type_of% @sok.eq_4∧type_of% @sok.eq_5∧type_of% @sok.eq_6∧type_of% @sok.eq_7∧type_of% @sok.eq_8∧type_of% @sok.eq_9∧type_of% @sok.eq_10∧type_of% @sok.eq_11∧type_of% @frs.eq_1∧type_of% @frs.eq_2∧type_of% @frs.eq_3∧type_of% @frs.eq_4∧type_of% @frs.eq_5∧type_of% @frs.eq_6∧type_of% @frs.eq_7∧type_of% @frs.eq_8∧type_of% @frs.eq_9∧type_of% @frs.eq_10∧type_of% @frs.eq_11∧type_of% @frs.eq_12∧type_of% @frs.eq_13∧type_of% @frs.eq_14∧type_of% @frs.eq_15∧type_of% @argTm_app∧type_of% @noH_app∧type_of% @noC_app∧type_of% @tmk_nil∧type_of% @tmk_cons∧type_of% @hmk_nil∧type_of% @hmk_cons∧type_of% @tmOk.eq_1∧type_of% @tmOk.eq_2∧type_of% @hOk.eq_1∧type_of% @hOk.eq_2 :=
  ⟨@fillL.eq_2,@St.put.eq_1,@dput_some,@dput_none,@tupd_app,@hupd_app,@cupd_app,@siteOf.eq_1,@rvals.eq_1,@rvals.eq_2,@rval.eq_1,@rval.eq_2,@snap.eq_1,@snap.eq_2,@snap.eq_3,@snap.eq_4,@snap.eq_5,@snap.eq_6,@snap.eq_7,@snap.eq_8,@snap.eq_9,@snap.eq_10,@snap.eq_11,@sok.eq_1,@sok.eq_2,@sok.eq_3,@sok.eq_4,@sok.eq_5,@sok.eq_6,@sok.eq_7,@sok.eq_8,@sok.eq_9,@sok.eq_10,@sok.eq_11,@frs.eq_1,@frs.eq_2,@frs.eq_3,@frs.eq_4,@frs.eq_5,@frs.eq_6,@frs.eq_7,@frs.eq_8,@frs.eq_9,@frs.eq_10,@frs.eq_11,@frs.eq_12,@frs.eq_13,@frs.eq_14,@frs.eq_15,@argTm_app,@noH_app,@noC_app,@tmk_nil,@tmk_cons,@hmk_nil,@hmk_cons,@tmOk.eq_1,@tmOk.eq_2,@hOk.eq_1,@hOk.eq_2⟩
theorem VC5:type_of% @Option.map.eq_1.{0,0}∧type_of% @Option.map.eq_2.{0,0}∧type_of% @Prod.mk.injEq.{0,0}∧type_of% @List.getD_cons_zero.{0}∧type_of% @List.getD_cons_succ.{0}∧type_of% @List.map_cons.{0,0}∧type_of% @List.map_nil.{0,0}∧type_of% @List.all_cons.{0}∧type_of% @List.all_nil.{0}∧type_of% @true_and∧type_of% @and_true∧type_of% @and_self∧type_of% @and_false∧type_of% @false_and∧type_of% @Bool.true_and∧type_of% @Bool.and_true∧type_of% @Bool.not_true∧type_of% @Bool.not_false∧type_of% @beq_self_eq_true.{0}∧type_of% @decide_eq_true_eq∧type_of% @decide_eq_false_iff_not∧type_of% @Int.toNat_natCast∧type_of% @Nat.zero_add∧type_of% @Nat.add_zero∧type_of% @Nat.mul_one∧type_of% @forall_const.{1}∧type_of% @eq_self.{1}∧type_of% @Bool.false_eq_true∧type_of% @Bool.true_eq_false∧type_of% @false_implies∧type_of% @true_implies∧type_of% @beq_true∧type_of% @beq_false∧type_of% @if_true.{1}∧type_of% @if_false.{1}∧type_of% @List.cons_append.{0}∧type_of% @List.nil_append.{0}∧type_of% @Nat.le_refl∧type_of% @Nat.lt_add_one∧type_of% @stO.eq_1∧type_of% @slO.eq_1∧type_of% @slO.eq_2∧type_of% @SS.v.eq_1∧type_of% @SS.v.eq_2∧type_of% @SS.v.eq_3∧type_of% @SS.v.eq_4∧type_of% @SS.v.eq_5∧type_of% @SS.v.eq_6∧type_of% @SS.v.eq_7∧type_of% @SS.v.eq_8∧type_of% @SS.v.eq_9∧type_of% @SS.v.eq_10∧type_of% @SS.v.eq_11∧type_of% @SS.v.eq_12∧type_of% @SS.v.eq_13∧type_of% @SS.v.eq_14∧type_of% @SS.v.eq_15∧type_of% @SS.v.eq_16∧type_of% @hpO.eq_1∧type_of% @hpO.eq_2 :=
  ⟨@Option.map.eq_1.{0,0},@Option.map.eq_2.{0,0},@Prod.mk.injEq.{0,0},@List.getD_cons_zero.{0},@List.getD_cons_succ.{0},@List.map_cons.{0,0},@List.map_nil.{0,0},@List.all_cons.{0},@List.all_nil.{0},@true_and,@and_true,@and_self,@and_false,@false_and,@Bool.true_and,@Bool.and_true,@Bool.not_true,@Bool.not_false,@beq_self_eq_true.{0},@decide_eq_true_eq,@decide_eq_false_iff_not,@Int.toNat_natCast,@Nat.zero_add,@Nat.add_zero,@Nat.mul_one,@forall_const.{1},@eq_self.{1},@Bool.false_eq_true,@Bool.true_eq_false,@false_implies,@true_implies,@beq_true,@beq_false,@if_true.{1},@if_false.{1},@List.cons_append.{0},@List.nil_append.{0},@Nat.le_refl,@Nat.lt_add_one,@stO.eq_1,@slO.eq_1,@slO.eq_2,@SS.v.eq_1,@SS.v.eq_2,@SS.v.eq_3,@SS.v.eq_4,@SS.v.eq_5,@SS.v.eq_6,@SS.v.eq_7,@SS.v.eq_8,@SS.v.eq_9,@SS.v.eq_10,@SS.v.eq_11,@SS.v.eq_12,@SS.v.eq_13,@SS.v.eq_14,@SS.v.eq_15,@SS.v.eq_16,@hpO.eq_1,@hpO.eq_2⟩
theorem VC6:type_of% @hpO.eq_3∧type_of% @hpO.eq_4∧type_of% @hpO.eq_5∧type_of% @hpO.eq_6∧type_of% @hpO.eq_7∧type_of% @hpO.eq_8∧type_of% @hpO.eq_9∧type_of% @hpO.eq_10∧type_of% @hpO.eq_11∧type_of% @hpO.eq_12∧type_of% @hpO.eq_13∧type_of% @hpO.eq_14∧type_of% @hpO.eq_15∧type_of% @hpO.eq_16∧type_of% @hpO.eq_17∧type_of% @cnO.eq_1∧type_of% @mxO.eq_1∧type_of% @mxO.eq_2∧type_of% @mxO.eq_3∧type_of% @mxO.eq_4∧type_of% @mxO.eq_5∧type_of% @PK.eq_1∧type_of% @entL.eq_1∧type_of% @entL.eq_2∧type_of% @entS.eq_1∧type_of% @entS.eq_2∧type_of% @entS.eq_3∧type_of% @entS.eq_4∧type_of% @entS.eq_5∧type_of% @entS.eq_6∧type_of% @entS.eq_7∧type_of% @entS.eq_8∧type_of% @entS.eq_9∧type_of% @entS.eq_10∧type_of% @entS.eq_11∧type_of% @entS.eq_12∧type_of% @entS.eq_13∧type_of% @entS.eq_14∧type_of% @entS.eq_15∧type_of% @entS.eq_16∧type_of% @ownAt.eq_1∧type_of% @ownAt.eq_2∧type_of% @ownAt.eq_3∧type_of% @boxAt.eq_1∧type_of% @boxAt.eq_2∧type_of% @List.mem_nil_iff.{0}∧type_of% @List.not_mem_nil.{0}∧type_of% @not_false_eq_true∧type_of% @or_false∧type_of% @false_or∧type_of% @not_or∧type_of% @true_or∧type_of% @or_true∧type_of% @Nat.zero_ne_one∧type_of% @rowV_ld∧type_of% @hfz.eq_1∧type_of% @Option.map_some.{0,0}∧type_of% @intBeq∧type_of% @intBne∧type_of% @Bool.not_not :=
  ⟨@hpO.eq_3,@hpO.eq_4,@hpO.eq_5,@hpO.eq_6,@hpO.eq_7,@hpO.eq_8,@hpO.eq_9,@hpO.eq_10,@hpO.eq_11,@hpO.eq_12,@hpO.eq_13,@hpO.eq_14,@hpO.eq_15,@hpO.eq_16,@hpO.eq_17,@cnO.eq_1,@mxO.eq_1,@mxO.eq_2,@mxO.eq_3,@mxO.eq_4,@mxO.eq_5,@PK.eq_1,@entL.eq_1,@entL.eq_2,@entS.eq_1,@entS.eq_2,@entS.eq_3,@entS.eq_4,@entS.eq_5,@entS.eq_6,@entS.eq_7,@entS.eq_8,@entS.eq_9,@entS.eq_10,@entS.eq_11,@entS.eq_12,@entS.eq_13,@entS.eq_14,@entS.eq_15,@entS.eq_16,@ownAt.eq_1,@ownAt.eq_2,@ownAt.eq_3,@boxAt.eq_1,@boxAt.eq_2,@List.mem_nil_iff.{0},@List.not_mem_nil.{0},@not_false_eq_true,@or_false,@false_or,@not_or,@true_or,@or_true,@Nat.zero_ne_one,@rowV_ld,@hfz.eq_1,@Option.map_some.{0,0},@intBeq,@intBne,@Bool.not_not⟩
theorem VC7:type_of% @decide_true∧type_of% @decide_false∧type_of% @not_true_eq_false∧type_of% @ge_iff_le.{0}∧type_of% @gt_iff_lt.{0}∧type_of% @ite_not.{0}∧type_of% @Bool.true_or∧type_of% @Bool.or_true∧type_of% @Bool.false_or∧type_of% @Bool.or_false∧type_of% @Bool.false_and∧type_of% @Bool.and_false∧type_of% @List.length_nil.{0}∧type_of% @List.length_cons.{0}∧type_of% @imV.eq_1∧type_of% @imV.eq_2∧type_of% @imV.eq_3∧type_of% @imV.eq_4∧type_of% @imV.eq_5∧type_of% @imV.eq_6∧type_of% @imV.eq_7∧type_of% @imV.eq_8∧type_of% @imV.eq_9∧type_of% @imV.eq_10∧type_of% @imV.eq_11∧type_of% @imV.eq_12∧type_of% @imV.eq_13∧type_of% @imV.eq_14∧type_of% @imV.eq_15∧type_of% @imV.eq_16∧type_of% @imV.eq_17∧type_of% @V.int.injEq∧type_of% @V.bool.injEq∧type_of% @V.sl.injEq∧type_of% @V.str.injEq∧type_of% @Int.natCast_zero∧type_of% @Int.natCast_add∧type_of% @Int.natCast_one∧type_of% @Int.add_sub_cancel∧type_of% @Nat.add_assoc∧type_of% @slOf.eq_1∧type_of% @slOf.eq_2∧type_of% @one_int∧type_of% @one_bool∧type_of% @one_str∧type_of% @one_sl∧type_of% @one_e0∧type_of% @one_msl∧type_of% @one_mp∧type_of% @one_ip∧type_of% @one_nilp∧type_of% @one_fn∧type_of% @one_ifc∧type_of% @one_nili∧type_of% @Nat.sub_zero∧type_of% @Int.cast_ofNat_Int∧type_of% @Int.le_refl∧type_of% @vcg_join∧type_of% @List.drop_zero.{0}∧type_of% @vcg_regb :=
  ⟨@decide_true,@decide_false,@not_true_eq_false,@ge_iff_le.{0},@gt_iff_lt.{0},@ite_not.{0},@Bool.true_or,@Bool.or_true,@Bool.false_or,@Bool.or_false,@Bool.false_and,@Bool.and_false,@List.length_nil.{0},@List.length_cons.{0},@imV.eq_1,@imV.eq_2,@imV.eq_3,@imV.eq_4,@imV.eq_5,@imV.eq_6,@imV.eq_7,@imV.eq_8,@imV.eq_9,@imV.eq_10,@imV.eq_11,@imV.eq_12,@imV.eq_13,@imV.eq_14,@imV.eq_15,@imV.eq_16,@imV.eq_17,@V.int.injEq,@V.bool.injEq,@V.sl.injEq,@V.str.injEq,@Int.natCast_zero,@Int.natCast_add,@Int.natCast_one,@Int.add_sub_cancel,@Nat.add_assoc,@slOf.eq_1,@slOf.eq_2,@one_int,@one_bool,@one_str,@one_sl,@one_e0,@one_msl,@one_mp,@one_ip,@one_nilp,@one_fn,@one_ifc,@one_nili,@Nat.sub_zero,@Int.cast_ofNat_Int,@Int.le_refl,@vcg_join,@List.drop_zero.{0},@vcg_regb⟩
theorem VC8:type_of% @vopsB_nil∧type_of% @vopsB_consF∧type_of% @vopsB_consT∧type_of% @vstepL_none∧type_of% @litR_bsl∧type_of% @rmut.eq_1∧type_of% @rmut.eq_2∧type_of% @lappE.eq_1∧type_of% @lappE.eq_2∧type_of% @St.call.eq_1∧type_of% @St.back.eq_1∧type_of% @callTm_app∧type_of% @backTm_app∧type_of% @mapAt.eq_1∧type_of% @mapAt.eq_2∧type_of% @boxmAt.eq_1∧type_of% @boxmAt.eq_2∧type_of% @boxmmAt.eq_1∧type_of% @boxmmAt.eq_2∧type_of% @ownFAt.eq_1∧type_of% @ownFAt.eq_2∧type_of% @ownFAt.eq_3∧type_of% @boxoAt.eq_1∧type_of% @boxoAt.eq_2∧type_of% @SS.isBox.eq_1∧type_of% @SS.isBox.eq_2∧type_of% @SS.isBox.eq_3∧type_of% @SS.isBox.eq_4∧type_of% @SS.isBox.eq_5∧type_of% @SS.isBox.eq_6∧type_of% @one_mm∧type_of% @one_im∧type_of% @lmsb.eq_1∧type_of% @lmsb.eq_2∧type_of% @lmlk.eq_1∧type_of% @lmlk.eq_2∧type_of% @lmlk.eq_3∧type_of% @lmset.eq_1∧type_of% @lmset.eq_2∧type_of% @lmlen.eq_1∧type_of% @lmlen.eq_2∧type_of% @lmlen.eq_3∧type_of% @lmlen.eq_4∧type_of% @ls2b.eq_1∧type_of% @ls2b.eq_2∧type_of% @lb2s.eq_1∧type_of% @leqa.eq_1∧type_of% @leqa.eq_2∧type_of% @lkV.eq_1∧type_of% @lkV.eq_2∧type_of% @keyV.eq_1∧type_of% @keyV.eq_2∧type_of% @keyV.eq_3∧type_of% @keyV.eq_4∧type_of% @keyV.eq_5∧type_of% @findK.eq_1∧type_of% @findK.eq_2∧type_of% @eqK.eq_1∧type_of% @eqK.eq_2∧type_of% @eqK.eq_3 :=
  ⟨@vopsB_nil,@vopsB_consF,@vopsB_consT,@vstepL_none,@litR_bsl,@rmut.eq_1,@rmut.eq_2,@lappE.eq_1,@lappE.eq_2,@St.call.eq_1,@St.back.eq_1,@callTm_app,@backTm_app,@mapAt.eq_1,@mapAt.eq_2,@boxmAt.eq_1,@boxmAt.eq_2,@boxmmAt.eq_1,@boxmmAt.eq_2,@ownFAt.eq_1,@ownFAt.eq_2,@ownFAt.eq_3,@boxoAt.eq_1,@boxoAt.eq_2,@SS.isBox.eq_1,@SS.isBox.eq_2,@SS.isBox.eq_3,@SS.isBox.eq_4,@SS.isBox.eq_5,@SS.isBox.eq_6,@one_mm,@one_im,@lmsb.eq_1,@lmsb.eq_2,@lmlk.eq_1,@lmlk.eq_2,@lmlk.eq_3,@lmset.eq_1,@lmset.eq_2,@lmlen.eq_1,@lmlen.eq_2,@lmlen.eq_3,@lmlen.eq_4,@ls2b.eq_1,@ls2b.eq_2,@lb2s.eq_1,@leqa.eq_1,@leqa.eq_2,@lkV.eq_1,@lkV.eq_2,@keyV.eq_1,@keyV.eq_2,@keyV.eq_3,@keyV.eq_4,@keyV.eq_5,@findK.eq_1,@findK.eq_2,@eqK.eq_1,@eqK.eq_2,@eqK.eq_3⟩
theorem VC9:type_of% @eqK.eq_4∧type_of% @eqK.eq_5∧type_of% @eqInts.eq_1∧type_of% @eqInts.eq_2∧type_of% @eqInts.eq_3∧type_of% @intsK.eq_1∧type_of% @intsK.eq_2∧type_of% @intsK.eq_3∧type_of% @isSlV.eq_1∧type_of% @isSlV.eq_2∧type_of% @isSlV.eq_3∧type_of% @isSlV.eq_4∧type_of% @boxGAt.eq_1∧type_of% @boxGAt.eq_2∧type_of% @cutAt.eq_1∧type_of% @cutAt.eq_2∧type_of% @cutAt.eq_3∧type_of% @vcg_regf∧type_of% @vcg_regg∧type_of% @vopsL_one∧type_of% @vopsL_cons∧type_of% @leqf.eq_1∧type_of% @leqf.eq_2∧type_of% @leqf.eq_3∧type_of% @leqf.eq_4∧type_of% @queAt.eq_1∧type_of% @queAt.eq_2∧type_of% @queAt.eq_3∧type_of% @vcg_regh∧type_of% @vopsH_z∧type_of% @vopsH_cons∧type_of% @vcg_regv∧type_of% @vT_leaf∧type_of% @vT_none∧type_of% @vT_alt∧type_of% @loAt_z∧type_of% @loAt_s∧type_of% @itAt.eq_1∧type_of% @itAt.eq_2∧type_of% @vcg_regc∧type_of% @vopsC_nil∧type_of% @vopsC_z∧type_of% @vopsC_2 :=
  ⟨@eqK.eq_4,@eqK.eq_5,@eqInts.eq_1,@eqInts.eq_2,@eqInts.eq_3,@intsK.eq_1,@intsK.eq_2,@intsK.eq_3,@isSlV.eq_1,@isSlV.eq_2,@isSlV.eq_3,@isSlV.eq_4,@boxGAt.eq_1,@boxGAt.eq_2,@cutAt.eq_1,@cutAt.eq_2,@cutAt.eq_3,@vcg_regf,@vcg_regg,@vopsL_one,@vopsL_cons,@leqf.eq_1,@leqf.eq_2,@leqf.eq_3,@leqf.eq_4,@queAt.eq_1,@queAt.eq_2,@queAt.eq_3,@vcg_regh,@vopsH_z,@vopsH_cons,@vcg_regv,@vT_leaf,@vT_none,@vT_alt,@loAt_z,@loAt_s,@itAt.eq_1,@itAt.eq_2,@vcg_regc,@vopsC_nil,@vopsC_z,@vopsC_2⟩
end Go.Lg

namespace Go.Lg
open Go Go.RowKit
def otherOk (P:Program):TypeDesc→Bool
  | .bool | .int _ | .string | .struct _ | .array ..=>false
  | .slice e=>P.cellsOf e == 0
  | _=>true
inductive Ty (P:Program):TypeId→List V→Prop
  | bool (t b):P.underlying t=some .bool→Ty P t [.bool b]
  | int (t k n):P.underlying t=some (.int k)→(Lit.int k n).wf=true→Ty P t [.int k n]
  | str (t s):P.underlying t=some .string→s.size≤maxLen→Ty P t [.str s]
  | struct (t fs cs):P.underlying t=some (.struct fs)→cs.length=P.cellsOf t→(∀ f∈fs.toList,Ty P f.type ((cs.drop f.offset).take (P.cellsOf f.type)))→Ty P t cs
  | array (t n e cs):P.underlying t=some (.array n e)→cs.length=P.cellsOf t→(∀ i,i<n→Ty P e ((cs.drop (i*P.cellsOf e)).take (P.cellsOf e)))→Ty P t cs
  | slice (t e n cs):P.underlying t=some (.slice e)→cs.length=n*P.cellsOf e→n≤maxLen→(∀ i,i<n→Ty P e ((cs.drop (i*P.cellsOf e)).take (P.cellsOf e)))→Ty P t [.sl n cs]
  | other (t d):P.underlying t=some d→otherOk P d=true→Ty P t [.junk]
section
variable {P:Program} {H:Type} {enc:TypeId × Value→H} {w:World}
def CellsRep (w:World) (cs:List Value) (xs:List V):Prop :=
  xs.length=cs.length∧∀ (j:Nat) (v:Value) (x:V),cs[j]? = some v→xs[j]? = some x→RepI (· < w.heap.size) w v x
theorem CellsRep.one {v:Value} {x:V} (h:RepI (· < w.heap.size) w v x):CellsRep w [v] [x]:=by
  refine ⟨rfl,fun j u y hu hy=>?_⟩
  cases j with
  | zero=>simp at hu hy;subst hu hy;exact h
  | succ j=>simp at hu
theorem cells?_spec {a:Addr} {n:Nat} {l:List Value} (h:w.cells? 0 a n=some l):l.length=n∧(0<n→∃ us T fz,a.spot=none∧w.heap[a.block]? = some (.cells us T fz)∧a.off+n≤us.size∧∀ j,j<n→us[a.off+j]? = l[j]?):=by
  unfold World.cells? at h
  rw [if_pos (Nat.zero_le _)] at h
  obtain ⟨h1,h2⟩:=mapM_spec h
  rw [List.length_range] at h1
  have get:∀ j (hj:j<n),w.cell? (a.add j)=some (l[j]'(by omega)):=by
    intro j hj
    exact h2 j j _ (by simp [hj]) (List.getElem?_eq_getElem (by omega))
  refine ⟨h1,fun hn=>?_⟩
  have h0:=get 0 hn
  have e0:a.add 0=a:=by simp [Addr.add]
  rw [e0] at h0
  have hspot:a.spot=none:=by
    unfold World.cell? at h0
    split at h0
    · split at h0
      · cases h0
      · rename_i hsp;simpa using hsp
    · cases h0
  obtain ⟨b,off,spot⟩:=a
  subst hspot
  unfold World.cell? at h0
  simp only [] at h0
  cases hb:w.heap[b]? with
  | none=>rw [hb] at h0;cases h0
  | some ob =>
    cases ob with
    | cells us T fz =>
      have cell:∀ j,j<n→us[off+j]? = l[j]?:=by
        intro j hj
        have:=get j hj
        rw [addr_add,cell_at hb] at this
        rw [this,List.getElem?_eq_getElem (by omega)]
      refine ⟨us,T,fz,rfl,rfl,?_,cell⟩
      have hl:=cell (n - 1) (by omega)
      rw [List.getElem?_eq_getElem (by omega)] at hl
      have:off+(n - 1)<us.size:=by
        rcases Nat.lt_or_ge (off+(n - 1)) us.size with h' | h'
        · exact h'
        · rw [Array.getElem?_eq_none h'] at hl;cases hl
      simp only []
      omega
    | _=>rw [hb] at h0;cases h0
def tileF (P:Program):Nat→List Field→Option Nat
  | o,[]=>some o
  | o,f::r=>if f.offset=o then tileF P (o+P.cellsOf f.type) r else none
def tileOk (P:Program) (t:TypeId):Bool:=match P.underlying t with
  | some (.struct fs)=>tileF P 0 fs.toList == some (P.cellsOf t)
  | some (.array n e)=>n*P.cellsOf e == P.cellsOf t
  | _=>true
def compsOf (P:Program) (t:TypeId):List TypeId:=match P.underlying t with
  | some (.struct fs)=>fs.toList.map (·.type)
  | some (.array _ e)|some (.slice e)=>[e]
  | _=>[]
def tilesOk (P:Program):Bool:=(List.range P.types.size).all fun t=>tileOk P t && (compsOf P t).all fun c=>decide (c<P.types.size)
theorem tile_all (h:tilesOk P=true) {t:TypeId} (ht:t<P.types.size):tileOk P t=true∧∀ c∈compsOf P t,c<P.types.size:=by
  have:=List.all_eq_true.1 h t (List.mem_range.2 ht)
  simp only [Bool.and_eq_true] at this
  exact ⟨this.1,fun c hc=>by simpa using List.all_eq_true.1 this.2 c hc⟩
end
end Go.Lg

namespace Go.Lg
open Go Go.RowKit
def kindF (P:Program) (t:TypeId):Option IntKind:=match P.underlying t with|some (.int k)=>some k|_=>none
def boolF (P:Program) (t:TypeId):Bool:=match P.underlying t with|some .bool=>true|_=>false
def strF (P:Program) (t:TypeId):Bool:=match P.underlying t with|some .string=>true|_=>false
def stF (P:Program) (t:TypeId):Option (List TypeId):=match P.underlying t with|some (.struct fs)=>if tileOk P t then some (fs.toList.map (·.type)) else none|_=>none
def slF (P:Program) (t:TypeId):Option (TypeId × Nat):=match P.underlying t with|some (.slice e)=>some (e,P.cellsOf e)|_=>none
def Pcs (Q:TypeId→List V→Prop):List TypeId→List V→Prop
  | [],xs=>xs=[]
  | t::r,xs=>∃ p q,xs=p++q∧Q t p∧Pcs Q r q
section
variable {P:Program}
theorem pcs_of {Q:TypeId→List V→Prop} {xs:List V}:∀ (fs:List Field) (o n:Nat),tileF P o fs=some n→xs.length=n→(∀ f∈fs,Q f.type ((xs.drop f.offset).take (P.cellsOf f.type)))→Pcs Q (fs.map (·.type)) (xs.drop o)
  | [],o,n,h,hl,_=>by
    cases h
    simp only [List.map_nil,Pcs]
    exact List.drop_eq_nil_of_le (by omega)
  | f::r,o,n,h,hl,hf=>by
    simp only [tileF] at h
    split at h
    case isFalse=>cases h
    rename_i ho
    have h1:=hf f (List.mem_cons_self ..)
    rw [ho] at h1
    refine ⟨_,_,?_,h1,pcs_of r _ n h hl fun g hg=>hf g (List.mem_cons_of_mem _ hg)⟩
    rw [← List.drop_drop,List.take_append_drop]
theorem Ty.st {t:TypeId} {xs:List V} {ts:List TypeId} (h:Ty P t xs) (hs:stF P t=some ts):Pcs (Ty P) ts xs:=by
  unfold stF at hs
  cases h with
  | struct _ fs _ hu hl hf =>
    simp only [hu] at hs
    split at hs
    case isFalse=>cases hs
    rename_i ht
    cases hs
    simp only [tileOk,hu,beq_iff_eq] at ht
    have:=pcs_of (Q:=Ty P) (xs:=xs) fs.toList 0 _ ht hl hf
    simpa using this
  | other _ d hu ho=>simp only [hu] at hs;cases d<;>simp_all [otherOk]
  | _=>simp_all
def IsT (P:Program) (t:TypeId) {α:Type} (f:α→List V) (ok:α→Prop):Prop:=∀ xs,Ty P t xs→∃ x,xs=f x∧ok x
def encL {α:Type} (f:α→List V) (l:List α):V:=.sl l.length (l.flatMap f)
theorem isInt {t:TypeId} (h:kindF P t=some .i64):IsT P t (fun n:Int=>[.int .i64 n]) InI64:=by
  intro xs hx
  unfold kindF at h
  cases hx with
  | int _ k n hu hw =>
    simp only [hu,Option.some.injEq] at h
    subst h
    refine ⟨n,rfl,?_⟩
    simp [Lit.wf,IntKind.min,IntKind.max,IntKind.signed,IntKind.bits] at hw
    exact hw
  | other _ d hu ho=>simp only [hu] at h;cases d<;>simp_all [otherOk]
  | _=>simp_all
theorem isBool {t:TypeId} (h:boolF P t=true):IsT P t (fun b:Bool=>[.bool b]) (fun _=>True):=by
  intro xs hx
  unfold boolF at h
  cases hx with
  | bool _ b hu=>exact ⟨b,rfl,trivial⟩
  | other _ d hu ho=>simp only [hu] at h;cases d<;>simp_all [otherOk]
  | _=>simp_all
theorem isStr {t:TypeId} (h:strF P t=true):IsT P t (fun s:ByteArray=>[.str s]) (fun s=>s.size≤maxLen):=by
  intro xs hx
  unfold strF at h
  cases hx with
  | str _ b hu hs=>exact ⟨b,rfl,hs⟩
  | other _ d hu ho=>simp only [hu] at h;cases d<;>simp_all [otherOk]
  | _=>simp_all
theorem Ty.sl {t e:TypeId} {s:Nat} {xs:List V} (h:Ty P t xs) (hs:slF P t=some (e,s)) (hp:0<s) :
    ∃ n cs,xs=[.sl n cs]∧cs.length=n*s∧n≤maxLen∧∀ i,i<n→Ty P e ((cs.drop (i*s)).take s):=by
  unfold slF at hs
  cases h with
  | slice _ e' n cs hu hl hn hi =>
    simp only [hu,Option.some.injEq,Prod.mk.injEq] at hs
    obtain ⟨rfl,rfl⟩:=hs
    exact ⟨n,cs,rfl,hl,hn,hi⟩
  | other _ d hu ho =>
    simp only [hu] at hs
    cases d with
    | slice e' =>
      simp only [Option.some.injEq,Prod.mk.injEq] at hs
      obtain ⟨rfl,rfl⟩:=hs
      simp [otherOk] at ho;omega
    | _=>cases hs
  | _=>simp_all
theorem list_of_pcs {α:Type} {f:α→List V} {ok:α→Prop} {s:Nat} (hf:∀ x,(f x).length=s):∀ (n:Nat) (cs:List V),cs.length=n*s→(∀ i,i<n→∃ x,(cs.drop (i*s)).take s=f x∧ok x) →
    ∃ l:List α,l.length=n∧cs=l.flatMap f∧∀ x∈l,ok x
  | 0,cs,hl,_=>⟨[],rfl,List.eq_nil_of_length_eq_zero (by omega),fun x h=>by cases h⟩
  | n+1,cs,hl,h=>by
    obtain ⟨x,hx,hox⟩:=h 0 (by omega)
    have hl':(cs.drop s).length=n*s:=by rw [List.length_drop,hl,Nat.add_mul];omega
    obtain ⟨l,h1,h2,h3⟩:=list_of_pcs hf n (cs.drop s) hl' fun i hi=>by
      obtain ⟨y,hy,hoy⟩:=h (i+1) (by omega)
      refine ⟨y,?_,hoy⟩
      rw [List.drop_drop,show s+i*s=(i+1)*s by rw [Nat.add_mul];omega]
      exact hy
    refine ⟨x::l,by simp [h1],?_,fun y hy=>?_⟩
    · simp only [Nat.zero_mul,List.drop_zero] at hx
      rw [List.flatMap_cons,← h2,← hx,List.take_append_drop]
    · rcases List.mem_cons.1 hy with rfl|hy
      · exact hox
      · exact h3 y hy
theorem isSl {t e:TypeId} {s:Nat} {α:Type} {f:α→List V} {ok:α→Prop} (h:slF P t=some (e,s)) (hp:0<s) (hf:∀ x,(f x).length=s) (he:IsT P e f ok) :
    IsT P t (fun l:List α=>[encL f l]) (fun l=>l.length≤maxLen∧∀ x∈l,ok x):=by
  intro xs hx
  obtain ⟨n,cs,rfl,hl,hn,hi⟩:=hx.sl h hp
  obtain ⟨l,h1,h2,h3⟩:=list_of_pcs hf n cs hl fun i h=>he _ (hi i h)
  exact ⟨l,by simp only [encL];rw [← h2,h1],by omega,h3⟩
theorem flat_len {α:Type} {f:α→List V} {s:Nat} (hf:∀ x,(f x).length=s):∀ (l:List α),(l.flatMap f).length=l.length*s
  | []=>by simp
  | x::l=>by rw [List.flatMap_cons,List.length_append,flat_len hf l,hf,List.length_cons,Nat.add_mul];omega
theorem flat_rec {α:Type} {f:α→List V} {s:Nat} (hf:∀ x,(f x).length=s):∀ (l:List α) (i:Nat) (h:i<l.length),((l.flatMap f).drop (i*s)).take s=f l[i]
  | x::l,0,_=>by
    rw [List.flatMap_cons,Nat.zero_mul,List.drop_zero,← hf x,List.take_left];rfl
  | x::l,i+1,h=>by
    rw [List.flatMap_cons,Nat.add_mul,Nat.one_mul,Nat.add_comm,List.drop_append,hf,List.drop_eq_nil_of_le (by rw [hf];omega),List.nil_append,Nat.add_sub_cancel_left]
    exact flat_rec hf l i (by simpa using h)
theorem flat_cell {α:Type} {f:α→List V} {s:Nat} (hf:∀ x,(f x).length=s):∀ (l:List α) (i j:Nat) (h:i<l.length),j<s→(l.flatMap f)[i*s+j]? = (f l[i])[j]?
  | x::l,0,j,_,hj=>by
    rw [List.flatMap_cons,Nat.zero_mul,Nat.zero_add,List.getElem?_append_left (by rw [hf];exact hj)];rfl
  | x::l,i+1,j,h,hj=>by
    rw [List.flatMap_cons,List.getElem?_append_right (by rw [hf,Nat.add_mul];omega),hf,show (i+1)*s+j - s=i*s+j by rw [Nat.add_mul];omega]
    exact flat_cell hf l i j (by simpa using h) hj
end
end Go.Lg

namespace Go.Lg
open Go Go.RowKit
def cI (n:Int):List V:=[.int .i64 n]
def cB (b:Bool):List V:=[.bool b]
def cS (s:ByteArray):List V:=[.str s]
structure MPath where
  loc:Int
  steps:List ByteArray
@[irreducible] def MPath.cells (p:MPath):List V:=[.int .i64 p.loc,encL cS p.steps]
def MPath.ok (p:MPath):Prop:=InI64 p.loc∧p.steps.length≤maxLen∧∀ s∈p.steps,s.size≤maxLen
structure MOper where
  kind:Int
  n:Int
  path:MPath
@[irreducible] def MOper.cells (o:MOper):List V:=[.int .i64 o.kind,.int .i64 o.n,.int .i64 o.path.loc,encL cS o.path.steps]
def MOper.ok (o:MOper):Prop:=InI64 o.kind∧InI64 o.n∧o.path.ok
structure MVal where
  kind:Int
  a:MOper
  b:MOper
  op:Int
  path:MPath
  region:Int
  name:ByteArray
  regions:List Int
  args:List MOper
@[irreducible] def MVal.cells (v:MVal):List V:=[.int .i64 v.kind,.int .i64 v.a.kind,.int .i64 v.a.n,.int .i64 v.a.path.loc,encL cS v.a.path.steps,.int .i64 v.b.kind,.int .i64 v.b.n,.int .i64 v.b.path.loc,encL cS v.b.path.steps,
  .int .i64 v.op,.int .i64 v.path.loc,encL cS v.path.steps,.int .i64 v.region,.str v.name,encL cI v.regions,encL MOper.cells v.args]
def MVal.ok (v:MVal):Prop:=InI64 v.kind∧v.a.ok∧v.b.ok∧InI64 v.op∧v.path.ok∧InI64 v.region∧v.name.size≤maxLen∧(v.regions.length≤maxLen∧∀ x∈v.regions,InI64 x)∧(v.args.length≤maxLen∧∀ x∈v.args,x.ok)
structure MInst where
  kind:Int
  at':Int
  has:Bool
  to:MPath
  val:MVal
  next:List Int
@[irreducible] def MInst.cells (x:MInst):List V:=[.int .i64 x.kind,.int .i64 x.at',.bool x.has,.int .i64 x.to.loc,encL cS x.to.steps,.int .i64 x.val.kind,.int .i64 x.val.a.kind,.int .i64 x.val.a.n,.int .i64 x.val.a.path.loc,encL cS x.val.a.path.steps,
  .int .i64 x.val.b.kind,.int .i64 x.val.b.n,.int .i64 x.val.b.path.loc,encL cS x.val.b.path.steps,.int .i64 x.val.op,.int .i64 x.val.path.loc,encL cS x.val.path.steps,.int .i64 x.val.region,.str x.val.name,encL cI x.val.regions,encL MOper.cells x.val.args,encL cI x.next]
def MInst.ok (x:MInst):Prop:=InI64 x.kind∧InI64 x.at'∧x.to.ok∧x.val.ok∧x.next.length≤maxLen∧∀ y∈x.next,InI64 y
inductive RT where
  | mk (kind:Int) (name:ByteArray) (regions:List Int) (elem:List RT)
def RT.kind:RT→Int | .mk k _ _ _=>k
def RT.name:RT→ByteArray | .mk _ n _ _=>n
def RT.regions:RT→List Int | .mk _ _ r _=>r
def RT.elem:RT→List RT | .mk _ _ _ e=>e
mutual
def RT.cells:RT→List V
  | .mk k n r e=>[.int .i64 k,.str n,encL cI r,.sl e.length (RT.cellsL e)]
def RT.cellsL:List RT→List V
  | []=>[]
  | x::r=>RT.cells x++RT.cellsL r
end
mutual
def RT.ok:RT→Prop
  | .mk k n r e=>InI64 k∧n.size≤maxLen∧(r.length≤maxLen∧∀ x∈r,InI64 x)∧e.length≤maxLen∧RT.okL e
def RT.okL:List RT→Prop
  | []=>True
  | x::r=>RT.ok x∧RT.okL r
end
theorem RT.cellsL_eq:∀ l:List RT,RT.cellsL l=l.flatMap RT.cells
  | []=>rfl
  | x::r=>by rw [RT.cellsL,RT.cellsL_eq r];rfl
theorem RT.okL_iff:∀ l:List RT,RT.okL l↔∀ x∈l,x.ok
  | []=>by simp [RT.okL]
  | x::r=>by rw [RT.okL,RT.okL_iff r];simp
theorem RT.cells_eq (t:RT):t.cells=[.int .i64 t.kind,.str t.name,encL cI t.regions,encL RT.cells t.elem]:=by
  cases t with
  | mk k n r e=>rw [RT.cells,RT.cellsL_eq];rfl
theorem RT.ok_iff (t:RT):t.ok↔InI64 t.kind∧t.name.size≤maxLen∧(t.regions.length≤maxLen∧∀ x∈t.regions,InI64 x)∧t.elem.length≤maxLen∧∀ x∈t.elem,x.ok:=by
  cases t with
  | mk k n r e=>rw [RT.ok,RT.okL_iff];rfl
structure MLocal where
  name:ByteArray
  type:RT
  param:Bool
@[irreducible] def MLocal.cells (l:MLocal):List V:=[.str l.name,.int .i64 l.type.kind,.str l.type.name,encL cI l.type.regions,encL RT.cells l.type.elem,.bool l.param]
def MLocal.ok (l:MLocal):Prop:=l.name.size≤maxLen∧l.type.ok
structure Mir where
  at':Int
  free:Int
  regions:Int
  known:List (List Int)
  locals:List MLocal
  code:List MInst
@[irreducible] def Mir.cells (m:Mir):List V:=[.int .i64 m.at',.int .i64 m.free,.int .i64 m.regions,encL (fun k:List Int=>k.flatMap cI) m.known,encL MLocal.cells m.locals,encL MInst.cells m.code]
def Mir.ok (m:Mir):Prop:=InI64 m.at'∧InI64 m.free∧InI64 m.regions∧(m.known.length≤maxLen∧∀ k∈m.known,k.length=2∧∀ x∈k,InI64 x)∧(m.locals.length≤maxLen∧∀ x∈m.locals,x.ok)∧(m.code.length≤maxLen∧∀ x∈m.code,x.ok)
theorem cI_len (x:Int):(cI x).length=1:=rfl
theorem cB_len (x:Bool):(cB x).length=1:=rfl
theorem cS_len (x:ByteArray):(cS x).length=1:=rfl
theorem MPath.len (x:MPath):x.cells.length=2:=by simp [MPath.cells]
theorem MOper.len (x:MOper):x.cells.length=4:=by simp [MOper.cells]
theorem MVal.len (x:MVal):x.cells.length=16:=by simp [MVal.cells]
theorem MInst.len (x:MInst):x.cells.length=22:=by simp [MInst.cells]
theorem RT.len (x:RT):x.cells.length=4:=by rw [RT.cells_eq];rfl
theorem MLocal.len (x:MLocal):x.cells.length=6:=by simp [MLocal.cells]
theorem Mir.len (x:Mir):x.cells.length=6:=by simp [Mir.cells]
end Go.Lg

namespace Go.Lg
open Go Go.RowKit
theorem MPath.c0 (x:MPath):ldV false 1 x.cells 0=some (.int .i64 x.loc):=by simp [ldV,MPath.cells]
theorem MPath.c1 (x:MPath):ldV false 1 x.cells 1=some (encL cS x.steps):=by simp [ldV,MPath.cells]
theorem MPath.call (x:MPath):ldV true 2 x.cells 0=some (.agg x.cells):=by simp only [ldV,if_true,Nat.zero_add,MPath.len,Nat.le_refl,List.drop_zero];rw [List.take_of_length_le (by rw [MPath.len];exact Nat.le_refl _)]
theorem MPath.snapc (x:MPath) (H:Heap) (d:Nat):x.cells.map (snap H (d+1))=x.cells:=by simp [MPath.cells,snap,encL]
theorem MPath.sokc (x:MPath) (H:Heap) (d:Nat):x.cells.all (sok H (d+1))=true:=by simp [MPath.cells,sok,encL]
theorem MPath.onec (x:MPath):x.cells.all V.one=true:=by simp [MPath.cells,V.one,encL]
theorem MPath.imvc (x:MPath) (d:Nat):x.cells.all (imV (d+1))=true:=by simp [MPath.cells,imV,encL]
theorem MOper.c0 (x:MOper):ldV false 1 x.cells 0=some (.int .i64 x.kind):=by simp [ldV,MOper.cells]
theorem MOper.c1 (x:MOper):ldV false 1 x.cells 1=some (.int .i64 x.n):=by simp [ldV,MOper.cells]
theorem MOper.c2 (x:MOper):ldV false 1 x.cells 2=some (.int .i64 x.path.loc):=by simp [ldV,MOper.cells]
theorem MOper.c3 (x:MOper):ldV false 1 x.cells 3=some (encL cS x.path.steps):=by simp [ldV,MOper.cells]
theorem MOper.call (x:MOper):ldV true 4 x.cells 0=some (.agg x.cells):=by simp only [ldV,if_true,Nat.zero_add,MOper.len,Nat.le_refl,List.drop_zero];rw [List.take_of_length_le (by rw [MOper.len];exact Nat.le_refl _)]
theorem MOper.s2_2 (x:MOper):ldV true 2 x.cells 2=some (.agg x.path.cells):=by simp [ldV,MOper.cells,MPath.cells]
theorem MOper.snapc (x:MOper) (H:Heap) (d:Nat):x.cells.map (snap H (d+1))=x.cells:=by simp [MOper.cells,snap,encL]
theorem MOper.sokc (x:MOper) (H:Heap) (d:Nat):x.cells.all (sok H (d+1))=true:=by simp [MOper.cells,sok,encL]
theorem MOper.onec (x:MOper):x.cells.all V.one=true:=by simp [MOper.cells,V.one,encL]
theorem MOper.imvc (x:MOper) (d:Nat):x.cells.all (imV (d+1))=true:=by simp [MOper.cells,imV,encL]
theorem MVal.c0 (x:MVal):ldV false 1 x.cells 0=some (.int .i64 x.kind):=by simp [ldV,MVal.cells]
theorem MVal.c1 (x:MVal):ldV false 1 x.cells 1=some (.int .i64 x.a.kind):=by simp [ldV,MVal.cells]
theorem MVal.c2 (x:MVal):ldV false 1 x.cells 2=some (.int .i64 x.a.n):=by simp [ldV,MVal.cells]
theorem MVal.c3 (x:MVal):ldV false 1 x.cells 3=some (.int .i64 x.a.path.loc):=by simp [ldV,MVal.cells]
theorem MVal.c4 (x:MVal):ldV false 1 x.cells 4=some (encL cS x.a.path.steps):=by simp [ldV,MVal.cells]
theorem MVal.c5 (x:MVal):ldV false 1 x.cells 5=some (.int .i64 x.b.kind):=by simp [ldV,MVal.cells]
theorem MVal.c6 (x:MVal):ldV false 1 x.cells 6=some (.int .i64 x.b.n):=by simp [ldV,MVal.cells]
theorem MVal.c7 (x:MVal):ldV false 1 x.cells 7=some (.int .i64 x.b.path.loc):=by simp [ldV,MVal.cells]
theorem MVal.c8 (x:MVal):ldV false 1 x.cells 8=some (encL cS x.b.path.steps):=by simp [ldV,MVal.cells]
theorem MVal.c9 (x:MVal):ldV false 1 x.cells 9=some (.int .i64 x.op):=by simp [ldV,MVal.cells]
theorem MVal.c10 (x:MVal):ldV false 1 x.cells 10=some (.int .i64 x.path.loc):=by simp [ldV,MVal.cells]
theorem MVal.c11 (x:MVal):ldV false 1 x.cells 11=some (encL cS x.path.steps):=by simp [ldV,MVal.cells]
theorem MVal.c12 (x:MVal):ldV false 1 x.cells 12=some (.int .i64 x.region):=by simp [ldV,MVal.cells]
theorem MVal.c13 (x:MVal):ldV false 1 x.cells 13=some (.str x.name):=by simp [ldV,MVal.cells]
theorem MVal.c14 (x:MVal):ldV false 1 x.cells 14=some (encL cI x.regions):=by simp [ldV,MVal.cells]
theorem MVal.c15 (x:MVal):ldV false 1 x.cells 15=some (encL MOper.cells x.args):=by simp [ldV,MVal.cells]
theorem MVal.call (x:MVal):ldV true 16 x.cells 0=some (.agg x.cells):=by simp only [ldV,if_true,Nat.zero_add,MVal.len,Nat.le_refl,List.drop_zero];rw [List.take_of_length_le (by rw [MVal.len];exact Nat.le_refl _)]
theorem MVal.s1_4 (x:MVal):ldV true 4 x.cells 1=some (.agg x.a.cells):=by simp [ldV,MVal.cells,MOper.cells]
theorem MVal.s5_4 (x:MVal):ldV true 4 x.cells 5=some (.agg x.b.cells):=by simp [ldV,MVal.cells,MOper.cells]
theorem MVal.s10_2 (x:MVal):ldV true 2 x.cells 10=some (.agg x.path.cells):=by simp [ldV,MVal.cells,MPath.cells]
theorem MVal.snapc (x:MVal) (H:Heap) (d:Nat):x.cells.map (snap H (d+1))=x.cells:=by simp [MVal.cells,snap,encL]
theorem MVal.sokc (x:MVal) (H:Heap) (d:Nat):x.cells.all (sok H (d+1))=true:=by simp [MVal.cells,sok,encL]
theorem MVal.onec (x:MVal):x.cells.all V.one=true:=by simp [MVal.cells,V.one,encL]
theorem MVal.imvc (x:MVal) (d:Nat):x.cells.all (imV (d+1))=true:=by simp [MVal.cells,imV,encL]
theorem MInst.c0 (x:MInst):ldV false 1 x.cells 0=some (.int .i64 x.kind):=by simp [ldV,MInst.cells]
theorem MInst.c1 (x:MInst):ldV false 1 x.cells 1=some (.int .i64 x.at'):=by simp [ldV,MInst.cells]
theorem MInst.c2 (x:MInst):ldV false 1 x.cells 2=some (.bool x.has):=by simp [ldV,MInst.cells]
theorem MInst.c3 (x:MInst):ldV false 1 x.cells 3=some (.int .i64 x.to.loc):=by simp [ldV,MInst.cells]
theorem MInst.c4 (x:MInst):ldV false 1 x.cells 4=some (encL cS x.to.steps):=by simp [ldV,MInst.cells]
theorem MInst.c5 (x:MInst):ldV false 1 x.cells 5=some (.int .i64 x.val.kind):=by simp [ldV,MInst.cells]
theorem MInst.c6 (x:MInst):ldV false 1 x.cells 6=some (.int .i64 x.val.a.kind):=by simp [ldV,MInst.cells]
theorem MInst.c7 (x:MInst):ldV false 1 x.cells 7=some (.int .i64 x.val.a.n):=by simp [ldV,MInst.cells]
theorem MInst.c8 (x:MInst):ldV false 1 x.cells 8=some (.int .i64 x.val.a.path.loc):=by simp [ldV,MInst.cells]
theorem MInst.c9 (x:MInst):ldV false 1 x.cells 9=some (encL cS x.val.a.path.steps):=by simp [ldV,MInst.cells]
theorem MInst.c10 (x:MInst):ldV false 1 x.cells 10=some (.int .i64 x.val.b.kind):=by simp [ldV,MInst.cells]
theorem MInst.c11 (x:MInst):ldV false 1 x.cells 11=some (.int .i64 x.val.b.n):=by simp [ldV,MInst.cells]
theorem MInst.c12 (x:MInst):ldV false 1 x.cells 12=some (.int .i64 x.val.b.path.loc):=by simp [ldV,MInst.cells]
theorem MInst.c13 (x:MInst):ldV false 1 x.cells 13=some (encL cS x.val.b.path.steps):=by simp [ldV,MInst.cells]
theorem MInst.c14 (x:MInst):ldV false 1 x.cells 14=some (.int .i64 x.val.op):=by simp [ldV,MInst.cells]
theorem MInst.c15 (x:MInst):ldV false 1 x.cells 15=some (.int .i64 x.val.path.loc):=by simp [ldV,MInst.cells]
theorem MInst.c16 (x:MInst):ldV false 1 x.cells 16=some (encL cS x.val.path.steps):=by simp [ldV,MInst.cells]
theorem MInst.c17 (x:MInst):ldV false 1 x.cells 17=some (.int .i64 x.val.region):=by simp [ldV,MInst.cells]
theorem MInst.c18 (x:MInst):ldV false 1 x.cells 18=some (.str x.val.name):=by simp [ldV,MInst.cells]
theorem MInst.c19 (x:MInst):ldV false 1 x.cells 19=some (encL cI x.val.regions):=by simp [ldV,MInst.cells]
theorem MInst.c20 (x:MInst):ldV false 1 x.cells 20=some (encL MOper.cells x.val.args):=by simp [ldV,MInst.cells]
theorem MInst.c21 (x:MInst):ldV false 1 x.cells 21=some (encL cI x.next):=by simp [ldV,MInst.cells]
theorem MInst.call (x:MInst):ldV true 22 x.cells 0=some (.agg x.cells):=by simp only [ldV,if_true,Nat.zero_add,MInst.len,Nat.le_refl,List.drop_zero];rw [List.take_of_length_le (by rw [MInst.len];exact Nat.le_refl _)]
theorem MInst.snapc (x:MInst) (H:Heap) (d:Nat):x.cells.map (snap H (d+1))=x.cells:=by simp [MInst.cells,snap,encL]
theorem MInst.sokc (x:MInst) (H:Heap) (d:Nat):x.cells.all (sok H (d+1))=true:=by simp [MInst.cells,sok,encL]
theorem MInst.onec (x:MInst):x.cells.all V.one=true:=by simp [MInst.cells,V.one,encL]
theorem MInst.imvc (x:MInst) (d:Nat):x.cells.all (imV (d+1))=true:=by simp [MInst.cells,imV,encL]
theorem RT.c0 (x:RT):ldV false 1 x.cells 0=some (.int .i64 x.kind):=by simp [ldV,RT.cells_eq]
theorem RT.c1 (x:RT):ldV false 1 x.cells 1=some (.str x.name):=by simp [ldV,RT.cells_eq]
theorem RT.c2 (x:RT):ldV false 1 x.cells 2=some (encL cI x.regions):=by simp [ldV,RT.cells_eq]
theorem RT.c3 (x:RT):ldV false 1 x.cells 3=some (encL RT.cells x.elem):=by simp [ldV,RT.cells_eq]
theorem RT.call (x:RT):ldV true 4 x.cells 0=some (.agg x.cells):=by simp only [ldV,if_true,Nat.zero_add,RT.len,Nat.le_refl,List.drop_zero];rw [List.take_of_length_le (by rw [RT.len];exact Nat.le_refl _)]
theorem RT.snapc (x:RT) (H:Heap) (d:Nat):x.cells.map (snap H (d+1))=x.cells:=by simp [RT.cells_eq,snap,encL]
theorem RT.sokc (x:RT) (H:Heap) (d:Nat):x.cells.all (sok H (d+1))=true:=by simp [RT.cells_eq,sok,encL]
theorem RT.onec (x:RT):x.cells.all V.one=true:=by simp [RT.cells_eq,V.one,encL]
theorem RT.imvc (x:RT) (d:Nat):x.cells.all (imV (d+1))=true:=by simp [RT.cells_eq,imV,encL]
theorem MLocal.c0 (x:MLocal):ldV false 1 x.cells 0=some (.str x.name):=by simp [ldV,MLocal.cells]
theorem MLocal.c1 (x:MLocal):ldV false 1 x.cells 1=some (.int .i64 x.type.kind):=by simp [ldV,MLocal.cells]
theorem MLocal.c2 (x:MLocal):ldV false 1 x.cells 2=some (.str x.type.name):=by simp [ldV,MLocal.cells]
theorem MLocal.c3 (x:MLocal):ldV false 1 x.cells 3=some (encL cI x.type.regions):=by simp [ldV,MLocal.cells]
theorem MLocal.c4 (x:MLocal):ldV false 1 x.cells 4=some (encL RT.cells x.type.elem):=by simp [ldV,MLocal.cells]
theorem MLocal.c5 (x:MLocal):ldV false 1 x.cells 5=some (.bool x.param):=by simp [ldV,MLocal.cells]
theorem MLocal.call (x:MLocal):ldV true 6 x.cells 0=some (.agg x.cells):=by simp only [ldV,if_true,Nat.zero_add,MLocal.len,Nat.le_refl,List.drop_zero];rw [List.take_of_length_le (by rw [MLocal.len];exact Nat.le_refl _)]
theorem MLocal.s1_4 (x:MLocal):ldV true 4 x.cells 1=some (.agg x.type.cells):=by simp [ldV,MLocal.cells,RT.cells_eq]
theorem MLocal.snapc (x:MLocal) (H:Heap) (d:Nat):x.cells.map (snap H (d+1))=x.cells:=by simp [MLocal.cells,snap,encL]
theorem MLocal.sokc (x:MLocal) (H:Heap) (d:Nat):x.cells.all (sok H (d+1))=true:=by simp [MLocal.cells,sok,encL]
theorem MLocal.onec (x:MLocal):x.cells.all V.one=true:=by simp [MLocal.cells,V.one,encL]
theorem MLocal.imvc (x:MLocal) (d:Nat):x.cells.all (imV (d+1))=true:=by simp [MLocal.cells,imV,encL]
theorem Mir.c0 (x:Mir):ldV false 1 x.cells 0=some (.int .i64 x.at'):=by simp [ldV,Mir.cells]
theorem Mir.c1 (x:Mir):ldV false 1 x.cells 1=some (.int .i64 x.free):=by simp [ldV,Mir.cells]
theorem Mir.c2 (x:Mir):ldV false 1 x.cells 2=some (.int .i64 x.regions):=by simp [ldV,Mir.cells]
theorem Mir.c3 (x:Mir):ldV false 1 x.cells 3=some (encL (fun k:List Int=>k.flatMap cI) x.known):=by simp [ldV,Mir.cells]
theorem Mir.c4 (x:Mir):ldV false 1 x.cells 4=some (encL MLocal.cells x.locals):=by simp [ldV,Mir.cells]
theorem Mir.c5 (x:Mir):ldV false 1 x.cells 5=some (encL MInst.cells x.code):=by simp [ldV,Mir.cells]
theorem Mir.call (x:Mir):ldV true 6 x.cells 0=some (.agg x.cells):=by simp only [ldV,if_true,Nat.zero_add,Mir.len,Nat.le_refl,List.drop_zero];rw [List.take_of_length_le (by rw [Mir.len];exact Nat.le_refl _)]
theorem Mir.snapc (x:Mir) (H:Heap) (d:Nat):x.cells.map (snap H (d+1))=x.cells:=by simp [Mir.cells,snap,encL]
theorem Mir.sokc (x:Mir) (H:Heap) (d:Nat):x.cells.all (sok H (d+1))=true:=by simp [Mir.cells,sok,encL]
theorem Mir.onec (x:Mir):x.cells.all V.one=true:=by simp [Mir.cells,V.one,encL]
theorem Mir.imvc (x:Mir) (d:Nat):x.cells.all (imV (d+1))=true:=by simp [Mir.cells,imV,encL]
theorem ld_flat {α:Type} {f:α→List V} {s:Nat} (hf:∀ x,(f x).length=s) {l:List α} {i j n:Nat} {agg:Bool} (h:i<l.length) (hj:j+n≤s) (hn:0<n):ldV agg n (l.flatMap f) (i*s+j)=ldV agg n (f l[i]) j:=by
  unfold ldV
  cases agg with
  | false=>simp only [Bool.false_eq_true,if_false];exact flat_cell hf l i j h (by omega)
  | true =>
    have hm:i*s+s≤l.length*s:=by
      have:=Nat.mul_le_mul_right s (show i+1≤l.length by omega)
      rw [Nat.add_mul] at this;omega
    simp only [if_true]
    rw [if_pos (by rw [flat_len hf];omega),if_pos (by rw [hf];exact hj),← flat_rec hf l i h,← List.drop_drop,List.drop_take,List.take_take,Nat.min_eq_left (by omega)]
theorem ld_flat0 {α:Type} {f:α→List V} {s:Nat} (hf:∀ x,(f x).length=s) {l:List α} {i n:Nat} {agg:Bool} (h:i<l.length) (hj:n≤s) (hn:0<n):ldV agg n (l.flatMap f) (i*s)=ldV agg n (f l[i]) 0 :=
  ld_flat hf (j:=0) h (by omega) hn
theorem ld_cI {l:List Int} {i:Nat} (h:i<l.length):ldV false 1 (l.flatMap cI) i=some (.int .i64 l[i]):=by
  have:=ld_flat0 (agg:=false) (n:=1) cI_len h (by decide) (by decide)
  rw [Nat.mul_one] at this;rw [this];rfl
theorem ld_cB {l:List Bool} {i:Nat} (h:i<l.length):ldV false 1 (l.flatMap cB) i=some (.bool l[i]):=by
  have:=ld_flat0 (agg:=false) (n:=1) cB_len h (by decide) (by decide)
  rw [Nat.mul_one] at this;rw [this];rfl
theorem ld_cS {l:List ByteArray} {i:Nat} (h:i<l.length):ldV false 1 (l.flatMap cS) i=some (.str l[i]):=by
  have:=ld_flat0 (agg:=false) (n:=1) cS_len h (by decide) (by decide)
  rw [Nat.mul_one] at this;rw [this];rfl
theorem ld_one (v:V):ldV false 1 [v] 0=some v:=rfl
theorem ld_cI0 (n:Int):ldV false 1 (cI n) 0=some (.int .i64 n):=rfl
theorem MInst.ld {l:List MInst} {i j n:Nat} {agg:Bool} (h:i<l.length) (hj:j+n≤22) (hn:0<n):ldV agg n (l.flatMap MInst.cells) (i*22+j)=ldV agg n l[i].cells j:=ld_flat MInst.len h hj hn
theorem MInst.ld0 {l:List MInst} {i n:Nat} {agg:Bool} (h:i<l.length) (hj:n≤22) (hn:0<n):ldV agg n (l.flatMap MInst.cells) (i*22)=ldV agg n l[i].cells 0:=ld_flat0 MInst.len h hj hn
theorem MLocal.ld {l:List MLocal} {i j n:Nat} {agg:Bool} (h:i<l.length) (hj:j+n≤6) (hn:0<n):ldV agg n (l.flatMap MLocal.cells) (i*6+j)=ldV agg n l[i].cells j:=ld_flat MLocal.len h hj hn
theorem MLocal.ld0 {l:List MLocal} {i n:Nat} {agg:Bool} (h:i<l.length) (hj:n≤6) (hn:0<n):ldV agg n (l.flatMap MLocal.cells) (i*6)=ldV agg n l[i].cells 0:=ld_flat0 MLocal.len h hj hn
theorem MOper.ld {l:List MOper} {i j n:Nat} {agg:Bool} (h:i<l.length) (hj:j+n≤4) (hn:0<n):ldV agg n (l.flatMap MOper.cells) (i*4+j)=ldV agg n l[i].cells j:=ld_flat MOper.len h hj hn
theorem MOper.ld0 {l:List MOper} {i n:Nat} {agg:Bool} (h:i<l.length) (hj:n≤4) (hn:0<n):ldV agg n (l.flatMap MOper.cells) (i*4)=ldV agg n l[i].cells 0:=ld_flat0 MOper.len h hj hn
theorem RT.ld {l:List RT} {i j n:Nat} {agg:Bool} (h:i<l.length) (hj:j+n≤4) (hn:0<n):ldV agg n (l.flatMap RT.cells) (i*4+j)=ldV agg n l[i].cells j:=ld_flat RT.len h hj hn
theorem RT.ld0 {l:List RT} {i n:Nat} {agg:Bool} (h:i<l.length) (hj:n≤4) (hn:0<n):ldV agg n (l.flatMap RT.cells) (i*4)=ldV agg n l[i].cells 0:=ld_flat0 RT.len h hj hn
theorem MPath.ld {l:List MPath} {i j n:Nat} {agg:Bool} (h:i<l.length) (hj:j+n≤2) (hn:0<n):ldV agg n (l.flatMap MPath.cells) (i*2+j)=ldV agg n l[i].cells j:=ld_flat MPath.len h hj hn
theorem MPath.ld0 {l:List MPath} {i n:Nat} {agg:Bool} (h:i<l.length) (hj:n≤2) (hn:0<n):ldV agg n (l.flatMap MPath.cells) (i*2)=ldV agg n l[i].cells 0:=ld_flat0 MPath.len h hj hn
theorem setCells_all {cs xs:List V} (h:cs.length=xs.length):setCells cs 0 xs=xs:=by
  simp [setCells,h]
end Go.Lg

namespace Go.Lg
open Go Go.RowKit
theorem li_len (l:List Int):(l.flatMap cI).length=l.length:=by rw [flat_len cI_len,Nat.mul_one]
theorem li_snap (H:Heap) (d:Nat) (l:List Int):(l.flatMap cI).map (snap H (d+1))=l.flatMap cI:=by
  induction l with
  | nil=>rfl
  | cons x r ih=>rw [List.flatMap_cons,List.map_append,ih];rfl
theorem li_sok (H:Heap) (d:Nat) (l:List Int):(l.flatMap cI).all (sok H (d+1))=true:=by
  induction l with
  | nil=>rfl
  | cons x r ih=>rw [List.flatMap_cons,List.all_append,ih];rfl
theorem li_one (l:List Int):(l.flatMap cI).all V.one=true:=by
  induction l with
  | nil=>rfl
  | cons x r ih=>rw [List.flatMap_cons,List.all_append,ih];rfl
theorem li_imv (d:Nat) (l:List Int):(l.flatMap cI).all (imV d)=true:=by
  induction l with
  | nil=>rfl
  | cons x r ih=>rw [List.flatMap_cons,List.all_append,ih];cases d<;>rfl
theorem li_flat (d:Nat) (l:List Int):(l.flatMap cI).all (flat d)=true:=by
  induction l with
  | nil=>rfl
  | cons x r ih=>rw [List.flatMap_cons,List.all_append,ih];cases d<;>rfl
theorem li_take {l:List Int} {n:Nat} (h:l.length≤n):(l.flatMap cI).take n=l.flatMap cI:=List.take_of_length_le (by rw [li_len];exact h)
theorem li_set {l:List Int} {k:Nat} {v:Int} (h:k<l.length):setCells (l.flatMap cI) k [.int .i64 v]=(l.set k v).flatMap cI:=by
  induction l generalizing k with
  | nil=>cases h
  | cons x r ih =>
    cases k with
    | zero=>simp [setCells,cI]
    | succ k =>
      have:=ih (k:=k) (by simpa using h)
      simp only [setCells,List.flatMap_cons,List.set_cons_succ,cI,List.cons_append,List.nil_append,List.length_singleton,List.take_succ_cons] at this ⊢
      rw [show k+1+1=(k+1)+1 from rfl,List.drop_succ_cons,this]
theorem li_app (l:List Int) (x:Int):l.flatMap cI++[.int .i64 x]=(l++[x]).flatMap cI:=by rw [List.flatMap_append];rfl
theorem li_mk (n:Nat):(List.replicate n [V.int .i64 0]).flatten=(List.replicate n (0:Int)).flatMap cI:=by rw [List.flatMap_def,List.map_replicate];rfl
theorem lb_len (l:List Bool):(l.flatMap cB).length=l.length:=by rw [flat_len cB_len,Nat.mul_one]
theorem lb_snap (H:Heap) (d:Nat) (l:List Bool):(l.flatMap cB).map (snap H (d+1))=l.flatMap cB:=by
  induction l with
  | nil=>rfl
  | cons x r ih=>rw [List.flatMap_cons,List.map_append,ih];rfl
theorem lb_sok (H:Heap) (d:Nat) (l:List Bool):(l.flatMap cB).all (sok H (d+1))=true:=by
  induction l with
  | nil=>rfl
  | cons x r ih=>rw [List.flatMap_cons,List.all_append,ih];rfl
theorem lb_one (l:List Bool):(l.flatMap cB).all V.one=true:=by
  induction l with
  | nil=>rfl
  | cons x r ih=>rw [List.flatMap_cons,List.all_append,ih];rfl
theorem lb_imv (d:Nat) (l:List Bool):(l.flatMap cB).all (imV d)=true:=by
  induction l with
  | nil=>rfl
  | cons x r ih=>rw [List.flatMap_cons,List.all_append,ih];cases d<;>rfl
theorem lb_flat (d:Nat) (l:List Bool):(l.flatMap cB).all (flat d)=true:=by
  induction l with
  | nil=>rfl
  | cons x r ih=>rw [List.flatMap_cons,List.all_append,ih];cases d<;>rfl
theorem lb_take {l:List Bool} {n:Nat} (h:l.length≤n):(l.flatMap cB).take n=l.flatMap cB:=List.take_of_length_le (by rw [lb_len];exact h)
theorem lb_set {l:List Bool} {k:Nat} {v:Bool} (h:k<l.length):setCells (l.flatMap cB) k [.bool v]=(l.set k v).flatMap cB:=by
  induction l generalizing k with
  | nil=>cases h
  | cons x r ih =>
    cases k with
    | zero=>simp [setCells,cB]
    | succ k =>
      have:=ih (k:=k) (by simpa using h)
      simp only [setCells,List.flatMap_cons,List.set_cons_succ,cB,List.cons_append,List.nil_append,List.length_singleton,List.take_succ_cons] at this ⊢
      rw [show k+1+1=(k+1)+1 from rfl,List.drop_succ_cons,this]
theorem lb_app (l:List Bool) (x:Bool):l.flatMap cB++[.bool x]=(l++[x]).flatMap cB:=by rw [List.flatMap_append];rfl
theorem lb_mk (n:Nat):(List.replicate n [V.bool false]).flatten=(List.replicate n (false:Bool)).flatMap cB:=by rw [List.flatMap_def,List.map_replicate];rfl
theorem ls_len (l:List ByteArray):(l.flatMap cS).length=l.length:=by rw [flat_len cS_len,Nat.mul_one]
theorem ls_snap (H:Heap) (d:Nat) (l:List ByteArray):(l.flatMap cS).map (snap H (d+1))=l.flatMap cS:=by
  induction l with
  | nil=>rfl
  | cons x r ih=>rw [List.flatMap_cons,List.map_append,ih];rfl
theorem ls_sok (H:Heap) (d:Nat) (l:List ByteArray):(l.flatMap cS).all (sok H (d+1))=true:=by
  induction l with
  | nil=>rfl
  | cons x r ih=>rw [List.flatMap_cons,List.all_append,ih];rfl
theorem ls_one (l:List ByteArray):(l.flatMap cS).all V.one=true:=by
  induction l with
  | nil=>rfl
  | cons x r ih=>rw [List.flatMap_cons,List.all_append,ih];rfl
theorem ls_imv (d:Nat) (l:List ByteArray):(l.flatMap cS).all (imV d)=true:=by
  induction l with
  | nil=>rfl
  | cons x r ih=>rw [List.flatMap_cons,List.all_append,ih];cases d<;>rfl
theorem ls_flat (d:Nat) (l:List ByteArray):(l.flatMap cS).all (flat d)=true:=by
  induction l with
  | nil=>rfl
  | cons x r ih=>rw [List.flatMap_cons,List.all_append,ih];cases d<;>rfl
theorem ls_take {l:List ByteArray} {n:Nat} (h:l.length≤n):(l.flatMap cS).take n=l.flatMap cS:=List.take_of_length_le (by rw [ls_len];exact h)
theorem ls_set {l:List ByteArray} {k:Nat} {v:ByteArray} (h:k<l.length):setCells (l.flatMap cS) k [.str v]=(l.set k v).flatMap cS:=by
  induction l generalizing k with
  | nil=>cases h
  | cons x r ih =>
    cases k with
    | zero=>simp [setCells,cS]
    | succ k =>
      have:=ih (k:=k) (by simpa using h)
      simp only [setCells,List.flatMap_cons,List.set_cons_succ,cS,List.cons_append,List.nil_append,List.length_singleton,List.take_succ_cons] at this ⊢
      rw [show k+1+1=(k+1)+1 from rfl,List.drop_succ_cons,this]
theorem ls_app (l:List ByteArray) (x:ByteArray):l.flatMap cS++[.str x]=(l++[x]).flatMap cS:=by rw [List.flatMap_append];rfl
end Go.Lg

namespace Go.Lg
open Go Go.RowKit
section
variable {α:Type} (f:α→List V)
variable {f} {H:Heap} {U:Key→Prop} {K:(Key→Prop)→Prop} {esz:Nat}
end
end Go.Lg

namespace Go.Lg
open Go Go.RowKit
def nz:Nat→V→V
  | 0,v=>v
  | _+1,.e0=>.sl 0 []
  | d+1,.agg cs=>.agg (cs.map (nz d))
  | d+1,.tup cs=>.tup (cs.map (nz d))
  | d+1,.sl n cs=>.sl n (cs.map (nz d))
  | d+1,.ip cs o=>.ip (cs.map (nz d)) o
  | d+1,.ifc t v=>.ifc t (nz d v)
  | d+1,.fn f cs=>.fn f (cs.map (nz d))
  | _+1,v=>v
theorem RepI.nz:∀ (d:Nat) {imm:Nat→Prop} {w:World} {u:Value} {x:V},RepI imm w u x→RepI imm w u (nz d x):=by
  intro d
  induction d with
  | zero=>intro imm w u x h;exact h
  | succ d ih =>
    intro imm w u x h
    have maps:∀ (cs:List V) (j:Nat) (c:V),(cs.map (Go.Lg.nz d))[j]? = some c→∃ c0,cs[j]? = some c0∧Go.Lg.nz d c0=c:=by
      intro cs j c hc
      simpa only [List.getElem?_map,Option.map_eq_some_iff] using hc
    cases h with
    | e0 A=>exact .sl0 _ _
    | agg vs cs hs hr=>exact .agg vs _ (by simpa using hs) fun j v c hv hc=>by obtain ⟨c0,h0,rfl⟩:=maps cs j c hc;exact ih (hr j v c0 hv h0)
    | tup vs cs hs hr=>exact .tup vs _ (by simpa using hs) fun j v c hv hc=>by obtain ⟨c0,h0,rfl⟩:=maps cs j c hc;exact ih (hr j v c0 hv h0)
    | fn f vs cs hs hr=>exact .fn f vs _ (by simpa using hs) fun j v c hv hc=>by obtain ⟨c0,h0,rfl⟩:=maps cs j c hc;exact ih (hr j v c0 hv h0)
    | sl b off n c us T fz cs h1 h2 h3 h4 h5=>exact .sl b off n c us T fz _ h1 h2 (by simpa using h3) h4 fun j v c hv hc=>by obtain ⟨c0,h0,rfl⟩:=maps cs j c hc;exact ih (h5 j v c0 hv h0)
    | ip b o off us T fz cs h1 h2 h3 h4=>exact .ip b o off us T fz _ h1 h2 (by simpa using h3) fun j v c hv hc=>by obtain ⟨c0,h0,rfl⟩:=maps cs j c hc;exact ih (h4 j v c0 hv h0)
    | ifc t v x h=>exact .ifc t v _ (ih h)
    | int=>exact .int _ _
    | bool=>exact .bool _
    | str=>exact .str _
    | sl0 A c=>exact .sl0 _ _
    | nilp=>exact .nilp
    | nili=>exact .nili
    | nilf=>exact .nilf
    | nilm=>exact .nilm
    | im b k ents es h1 h2 h3 h4 h5 h6=>exact .im b k ents es h1 h2 h3 h4 h5 h6
    | junk v=>exact .junk _
theorem PRet.nz {P:Program} {f:FuncId} {args args':List V} {r:V} (d:Nat) (he:args.map (nz d)=args') (h:PRet P f args' r):PRet P f args r:=by
  obtain ⟨hen,hc⟩:=h
  refine ⟨hen,fun imm w vs h1 h2 h3=>hc imm w vs h1 (by rw [← he];simpa using h2) fun j u c hu hcj=>?_⟩
  rw [← he,List.getElem?_map,Option.map_eq_some_iff] at hcj
  obtain ⟨c0,h0,rfl⟩:=hcj
  exact (h3 j u c0 hu h0).nz d
end Go.Lg

namespace Go.Lg
open Go Go.RowKit
section
variable {α:Type} {f:α→List V} {H:Heap} {U:Key→Prop} {K:(Key→Prop)→Prop} {esz:Nat}
end
section
variable {P:Program}
end
end Go.Lg

namespace Go.Lg
open Go Go.RowKit
theorem mapV_at (d:Nat):∀ (es:List (V × Nat × List V)) (i j:Nat) (h:j<es.length),(mapV d i es)[j]? = some (es[j].1,.msl (4398046511104+d,i+j) 0 0 es[j].2.1)
  | r::rs,i,0,_=>rfl
  | r::rs,i,j+1,h=>by
    simp only [mapV,List.getElem?_cons_succ]
    rw [mapV_at d rs (i+1) j (by simpa using h),show i+1+j=i+(j+1) by omega];rfl
def ixK (k:V):List (V × Nat × List V)→Option Nat
  | []=>none
  | e::r=>if eqK k e.1 then some 0 else (ixK k r).map (· + 1)
theorem ixK_lt {k:V}:∀ {es:List (V × Nat × List V)} {j:Nat},ixK k es=some j→∃ h:j<es.length,eqK k es[j].1=true
  | e::r,j,h=>by
    simp only [ixK] at h
    split at h
    · rename_i he;cases h;exact ⟨by simp,he⟩
    · rw [Option.map_eq_some_iff] at h
      obtain ⟨a,ha,rfl⟩:=h
      obtain ⟨h1,h2⟩:=ixK_lt ha
      exact ⟨by simpa using h1,by simpa using h2⟩
theorem find_mapV {d:Nat} {k:V}:∀ (es:List (V × Nat × List V)) (i:Nat),findK k (mapV d i es)=(ixK k es).map fun j=>(j,.msl (4398046511104+d,i+j) 0 0 (es.getD j (k,0,[])).2.1)
  | [],_=>rfl
  | e::r,i=>by
    simp only [mapV,findK,ixK]
    split
    · rfl
    · rw [find_mapV r (i+1)]
      cases ixK k r with
      | none=>rfl
      | some j=>simp only [Option.map_some,List.getD_cons_succ,show i+1+j=i+(j+1) by omega]
theorem findK_set {k v:V} (hk:eqK k k=true):∀ {es:List (V × V)} {j:Nat} {u:V},findK k es=some (j,u)→findK k (es.set j (k,v))=some (j,v)
  | e::r,j,u,h=>by
    simp only [findK] at h
    split at h
    · cases h;simp only [List.set_cons_zero,findK,hk,if_true]
    · rename_i he
      rw [Option.map_eq_some_iff] at h
      obtain ⟨⟨a,b⟩,ha,hb⟩:=h
      cases hb
      simp only [List.set_cons_succ,findK]
      rw [if_neg he,findK_set hk ha];rfl
theorem findK_app {k v:V} (hk:eqK k k=true):∀ {es:List (V × V)},findK k es=none→findK k (es++[(k,v)])=some (es.length,v)
  | [],_=>by simp only [List.nil_append,findK,hk,if_true];rfl
  | e::r,h=>by
    simp only [findK] at h
    split at h
    · cases h
    · rename_i he
      rw [Option.map_eq_none_iff] at h
      simp only [List.cons_append,findK]
      rw [if_neg he,findK_app hk h];rfl
theorem setK_some {k v u:V} {es:List (V × V)} {j:Nat} (h:findK k es=some (j,u)):setK es k v=es.set j (k,v):=by simp only [setK,h]
theorem setK_no {k v:V} {es:List (V × V)} (h:findK k es=none):setK es k v=es++[(k,v)]:=by simp only [setK,h]
theorem setK_set {k v v' u:V} (hk:eqK k k=true) {es:List (V × V)} {j:Nat} (h:findK k es=some (j,u)):setK (es.set j (k,v)) k v' = es.set j (k,v'):=by
  rw [setK_some (findK_set hk h),List.set_set]
theorem setK_app {k v v':V} (hk:eqK k k=true) {es:List (V × V)} (h:findK k es=none):setK (es++[(k,v)]) k v' = es++[(k,v')]:=by
  rw [setK_some (findK_app hk h)]
  simp
theorem mapV_keys {d:Nat} {kt:KT}:∀ {es:List (V × Nat × List V)} {i:Nat},(mapV d i es).all (fun e=>keyV kt e.1)=es.all fun e=>keyV kt e.1
  | [],_=>rfl
  | e::r,i=>by simp only [mapV,List.all_cons,mapV_keys (es:=r)]
theorem set_all {p:V × V→Bool} {es:List (V × V)} {j:Nat} {x:V × V} (h:es.all p=true) (hx:p x=true):(es.set j x).all p=true:=by
  rw [List.all_eq_true] at *
  intro y hy
  rcases List.mem_or_eq_of_mem_set hy with h1|rfl
  · exact h y h1
  · exact hx
section
variable {H:Heap} {esz:Nat} {U:Key→Prop} {K:(Key→Prop)→Prop}
theorem mapR_of {d:Nat} {es:List (V × Nat × List V)} {M:List (V × V)} {k:Key} (κ:Nat→Option Key) (hk:H k=some (.map M)) (hl:M.length=es.length) (hP:k.1<PK) (hU:¬ U k) (him:∀ e∈es,imV 8 e.1=true∧e.2.2.all (imV 8)=true)
    (hM:∀ (i:Nat) (h:i<es.length),∃ k' g,M[i]? = some (es[i].1,.msl k' g 0 es[i].2.1)∧H k' = some (.row g esz es[i].2.2)∧k'≠k∧¬ U k'∧k'.1<PK∧κ i=some k')
    (hinj:∀ i j k',κ i=some k'→κ j=some k'→i=j) (hout:∀ i,es.length≤i→κ i=none) (hK:K fun k'=>(k' = k∨∃ i,κ i=some k')∨U k'):mapRAt H esz es U K (.mm k):=by
  simp only [mapRAt,hk]
  refine ⟨⟨hl,fun i p e h1 h2=>?_,hU,hP⟩,κ,fun i e he=>?_,hinj,hout,hK⟩
  · obtain ⟨hi,rfl⟩:=List.getElem?_eq_some_iff.1 h2
    obtain ⟨k',g,a1,_⟩:=hM i hi
    rw [a1] at h1;cases h1
    exact ⟨rfl,(him _ (List.getElem_mem hi)).1⟩
  · obtain ⟨hi,rfl⟩:=List.getElem?_eq_some_iff.1 he
    obtain ⟨k',g,a1,a2,a3,a4,a5,a6⟩:=hM i hi
    rw [a1]
    exact ⟨_,a2,rfl,rfl,rfl,(him _ (List.getElem_mem hi)).2,fun h=>h.elim a3 a4,a5,a6⟩
theorem mapR_set {d j g n':Nat} {es:List (V × Nat × List V)} {cs':List V} (hj:j<es.length) (hk:H (2199023255552+d,0)=some (.map ((mapV d 0 es).set j (es[j].1,.msl (4398046511104+d,j) g 0 n'))))
    (hr:H (4398046511104+d,j)=some (.row g esz cs')) (ho:∀ (i:Nat) (h:i<es.length),i≠j→H (4398046511104+d,i)=some (.row 0 esz es[i].2.2))
    (him:∀ e∈es,imV 8 e.1=true∧e.2.2.all (imV 8)=true) (hcs:cs'.all (imV 8)=true) (hd:d<1000000) (hU:¬ U (2199023255552+d,0)) (hUi:∀ i,i<es.length→¬ U (4398046511104+d,i))
    (hK:K fun k'=>(k' = (2199023255552+d,0)∨∃ i,(if i<es.length then some ((4398046511104+d,i):Key) else none)=some k')∨U k'):mapRAt H esz (es.set j (es[j].1,n',cs')) U K (.mm (2199023255552+d,0)):=by
  refine mapR_of (d:=d) (fun i=>if i<es.length then some ((4398046511104+d,i):Key) else none) hk (by rw [List.length_set,List.length_set,mapV_len]) (by show _<PK;unfold PK;omega) hU (fun e he=>?_) (fun i hi=>?_) ?_ ?_ hK
  · rcases List.mem_or_eq_of_mem_set he with h1|rfl
    · exact him e h1
    · exact ⟨(him _ (List.getElem_mem hj)).1,hcs⟩
  · have hi':i<es.length:=by rwa [List.length_set] at hi
    by_cases e:i=j
    · subst e
      refine ⟨(4398046511104+d,i),g,?_,?_,?_,hUi i hi',by show _<PK;unfold PK;omega,if_pos hi'⟩
      · rw [List.getElem?_set_self (by rw [mapV_len];exact hi')];simp
      · simpa using hr
      · intro e;injection e with e;omega
    · refine ⟨(4398046511104+d,i),0,?_,?_,?_,hUi i hi',by show _<PK;unfold PK;omega,if_pos hi'⟩
      · rw [List.getElem?_set_ne (Ne.symm e),mapV_at d es 0 i hi',Nat.zero_add,List.getElem_set_ne (Ne.symm e)]
      · rw [List.getElem_set_ne (Ne.symm e)];exact ho i hi' e
      · intro e;injection e with e;omega
  · intro i j k' h1 h2
    split at h1
    · split at h2
      · cases h1;cases h2;rfl
      · cases h2
    · cases h1
  · intro i hi;rw [List.length_set] at hi;exact if_neg (by omega)
theorem mapR_snoc {d g n':Nat} {es:List (V × Nat × List V)} {key:V} {k2:Key} {cs':List V} (hk:H (2199023255552+d,0)=some (.map (mapV d 0 es++[(key,.msl k2 g 0 n')]))) (hr:H k2=some (.row g esz cs')) (hk2:k2.1<2199023255552)
    (ho:∀ (i:Nat) (h:i<es.length),H (4398046511104+d,i)=some (.row 0 esz es[i].2.2))
    (him:∀ e∈es,imV 8 e.1=true∧e.2.2.all (imV 8)=true) (hkey:imV 8 key=true) (hcs:cs'.all (imV 8)=true) (hd:d<1000000) (hU:¬ U (2199023255552+d,0)) (hUi:∀ i,i<es.length→¬ U (4398046511104+d,i)) (hU2:¬ U k2)
    (hK:K fun k'=>(k' = (2199023255552+d,0)∨∃ i,(if i=es.length then some k2 else if i<es.length then some ((4398046511104+d,i):Key) else none)=some k')∨U k'):mapRAt H esz (es++[(key,n',cs')]) U K (.mm (2199023255552+d,0)):=by
  refine mapR_of (d:=d) (fun i=>if i=es.length then some k2 else if i<es.length then some ((4398046511104+d,i):Key) else none) hk (by simp [mapV_len]) (by show _<PK;unfold PK;omega) hU (fun e he=>?_) (fun i hi=>?_) ?_ ?_ hK
  · rcases List.mem_append.1 he with h1|h1
    · exact him e h1
    · rw [List.mem_singleton.1 h1];exact ⟨hkey,hcs⟩
  · rw [List.length_append,List.length_singleton] at hi
    by_cases e:i=es.length
    · subst e
      refine ⟨k2,g,?_,?_,?_,hU2,by unfold PK;omega,if_pos rfl⟩
      · rw [List.getElem?_append_right (by rw [mapV_len];exact Nat.le_refl _),mapV_len];simp
      · simpa using hr
      · rintro rfl;simp at hk2;omega
    · have hi':i<es.length:=by omega
      refine ⟨(4398046511104+d,i),0,?_,?_,?_,hUi i hi',by show _<PK;unfold PK;omega,by rw [if_neg e,if_pos hi']⟩
      · rw [List.getElem?_append_left (by rw [mapV_len];exact hi'),mapV_at d es 0 i hi',Nat.zero_add,List.getElem_append_left hi']
      · rw [List.getElem_append_left hi'];exact ho i hi'
      · intro e;injection e with e;omega
  · intro i j k' h1 h2
    split at h1
    · cases h1
      split at h2
      · omega
      · split at h2
        · cases h2;simp at hk2;omega
        · cases h2
    · split at h1
      · cases h1
        split at h2
        · cases h2;simp at hk2;omega
        · split at h2
          · cases h2;rfl
          · cases h2
      · cases h1
  · intro i hi
    rw [List.length_append,List.length_singleton] at hi
    rw [if_neg (by omega),if_neg (by omega)]
end
end Go.Lg

namespace Go.Lg
open Go Go.RowKit
abbrev Lif:=ByteArray × List ByteArray
def edgeL (l:List Lif) (x y:ByteArray):Prop:=∃ p∈l,p.1=x∧y∈p.2
def hereL (l:List Lif) (x:ByteArray):Prop:=∃ p∈l,p.1=x
instance (l:List Lif) (x:ByteArray):Decidable (hereL l x):=by unfold hereL;infer_instance
inductive RchL (l:List Lif) (a:ByteArray):ByteArray→Prop
  | refl:RchL l a a
  | step {x y:ByteArray}:RchL l a x→edgeL l x y→RchL l a y
def OverL (l:List Lif) (a b:ByteArray):Prop:=hereL l a∧hereL l b∧RchL l a b
theorem RchL.trans {l:List Lif} {a b c:ByteArray} (h:RchL l a b) (h2:RchL l b c):RchL l a c:=by
  induction h2 with
  | refl=>exact h
  | step _ e ih=>exact .step ih e
theorem OverL.refl {l:List Lif} {p:Lif} (h:p∈l):OverL l p.1 p.1:=⟨⟨p,h,rfl⟩,⟨p,h,rfl⟩,.refl⟩
theorem OverL.trans {l:List Lif} {a b c:ByteArray} (h:OverL l a b) (h2:OverL l b c):OverL l a c:=⟨h.1,h2.2.1,h.2.2.trans h2.2.2⟩
open Classical in
noncomputable def overB (l:List Lif) (a b:ByteArray):Bool:=decide (OverL l a b)
theorem overB_true {l:List Lif} {a b:ByteArray}:overB l a b=true↔OverL l a b:=by simp [overB]
theorem overB_eq {l:List Lif} {a b:ByteArray} {q:Bool} (h:q=true↔OverL l a b):q=overB l a b:=by
  rw [Bool.eq_iff_iff,h,overB_true]
theorem snoc_ind {α:Type} {P:List α→Prop} (h0:P []) (h1:∀ l p,P l→P (l++[p])):∀ l,P l:=by
  intro l
  have h:∀ r:List α,P r.reverse:=by
    intro r
    induction r with
    | nil=>exact h0
    | cons x r ih=>rw [List.reverse_cons];exact h1 _ _ ih
  have:=h l.reverse
  rwa [List.reverse_reverse] at this
def ixO (s:ByteArray):List Lif→Option Nat
  | []=>none
  | p::r=>if s=p.1 then some 0 else (ixO s r).map (· + 1)
def lkO (es:List Lif) (s:ByteArray):List ByteArray:=match ixO s es with
  | some j=>(es.getD j (s,[])).2
  | none=>[]
def addO (es:List Lif) (s:ByteArray) (l:List ByteArray):List Lif:=match ixO s es with
  | some j=>es.set j (s,(es.getD j (s,[])).2++l)
  | none=>es++[(s,l)]
def ovS (l:List Lif):List Lif:=l.foldl (fun es p=>addO es p.1 (p.2++[p.1])) []
theorem lkO_cons (p:Lif) (r:List Lif) (s:ByteArray):lkO (p::r) s=if s=p.1 then p.2 else lkO r s:=by
  simp only [lkO,ixO]
  split
  · rename_i j h
    split at h
    · rename_i e;cases h;rw [if_pos e];rfl
    · rename_i e
      rw [Option.map_eq_some_iff] at h
      obtain ⟨i,hi,rfl⟩:=h
      rw [if_neg e,hi];rfl
  · rename_i h
    split at h
    · cases h
    · rename_i e
      rw [Option.map_eq_none_iff] at h
      rw [if_neg e,h]
theorem addO_cons (p:Lif) (r:List Lif) (s:ByteArray) (l:List ByteArray):addO (p::r) s l=if s=p.1 then (s,p.2++l)::r else p::addO r s l:=by
  simp only [addO,ixO]
  by_cases e:s=p.1
  · rw [if_pos e,if_pos e];rfl
  · rw [if_neg e,if_neg e]
    cases ixO s r with
    | none=>rfl
    | some j=>rfl
theorem lk_add (s x:ByteArray) (l:List ByteArray):∀ es:List Lif,lkO (addO es s l) x=if x=s then lkO es s++l else lkO es x
  | []=>by
    show lkO [(s,l)] x=_
    rw [lkO_cons]
    rfl
  | p::r=>by
    rw [addO_cons]
    by_cases e:s=p.1
    · rw [if_pos e,lkO_cons,lkO_cons,lkO_cons]
      by_cases ex:x=s
      · simp only [ex,if_true,if_pos e]
      · rw [if_neg ex,if_neg ex,if_neg (fun h=>ex (h.trans e.symm))]
    · rw [if_neg e,lkO_cons,lkO_cons,lkO_cons,lk_add s x l r,if_neg e]
      by_cases ex:x=s
      · subst ex;simp only [if_true,if_neg e]
      · rw [if_neg ex,if_neg ex]
theorem len_addO (s:ByteArray) (l:List ByteArray):∀ es:List Lif,(addO es s l).length≤es.length+1
  | []=>Nat.le_refl _
  | p::r=>by
    rw [addO_cons]
    split
    · simp
    · simp only [List.length_cons];have:=len_addO s l r;omega
theorem ov_snoc (l:List Lif) (p:Lif):ovS (l++[p])=addO (ovS l) p.1 (p.2++[p.1]):=by rw [ovS,List.foldl_append];rfl
theorem mem_lk:∀ (l:List Lif) {x y:ByteArray},y∈lkO (ovS l) x↔∃ p∈l,p.1=x∧(y∈p.2∨y=x):=by
  refine snoc_ind ?_ ?_
  · intro x y;exact ⟨fun h=>(by cases h),fun ⟨p,h,_⟩=>(by cases h)⟩
  · intro l p ih x y
    rw [ov_snoc,lk_add]
    constructor
    · intro h
      split at h
      · rename_i e;subst e
        rcases List.mem_append.1 h with h|h
        · obtain ⟨q,h1,h2⟩:=ih.1 h
          exact ⟨q,List.mem_append_left _ h1,h2⟩
        · refine ⟨p,by simp,rfl,?_⟩
          rcases List.mem_append.1 h with h|h
          · exact .inl h
          · exact .inr (List.mem_singleton.1 h)
      · obtain ⟨q,h1,h2⟩:=ih.1 h
        exact ⟨q,List.mem_append_left _ h1,h2⟩
    · rintro ⟨q,hq,rfl,h⟩
      rcases List.mem_append.1 hq with hq|hq
      · have:=ih.2 ⟨q,hq,rfl,h⟩
        split
        · rename_i e;rw [e] at this;exact List.mem_append_left _ this
        · exact this
      · rw [List.mem_singleton.1 hq] at h ⊢
        rw [if_pos rfl]
        refine List.mem_append_right _ ?_
        rcases h with h|h
        · exact List.mem_append_left _ h
        · rw [h];simp
theorem here_lk {l:List Lif} {x:ByteArray}:hereL l x↔lkO (ovS l) x≠[]:=by
  constructor
  · rintro ⟨p,hp,rfl⟩ e
    have:p.1∈lkO (ovS l) p.1:=(mem_lk l).2 ⟨p,hp,rfl,.inr rfl⟩
    rw [e] at this;cases this
  · intro h
    obtain ⟨y,hy⟩:=List.exists_mem_of_ne_nil _ h
    obtain ⟨p,hp,e,_⟩:=(mem_lk l).1 hy
    exact ⟨p,hp,e⟩
theorem len_lk {m:Nat}:∀ (l:List Lif),(∀ p∈l,p.2.length≤m)→∀ x,(lkO (ovS l) x).length≤l.length*(m+1):=by
  refine snoc_ind ?_ ?_
  · intro _ x;exact Nat.zero_le _
  · intro l p ih h x
    have h1:=ih (fun q hq=>h q (List.mem_append_left _ hq))
    have h2:=h p (by simp)
    have e:(l++[p]).length*(m+1)=l.length*(m+1)+(m+1):=by rw [List.length_append,List.length_singleton,Nat.add_mul,Nat.one_mul]
    rw [ov_snoc,lk_add,e]
    split
    · have:=h1 p.1
      simp only [List.length_append,List.length_singleton];omega
    · have:=h1 x
      omega
theorem len_ov:∀ l:List Lif,(ovS l).length≤l.length:=by
  refine snoc_ind ?_ ?_
  · exact Nat.le_refl _
  · intro l p ih
    rw [ov_snoc,List.length_append,List.length_singleton]
    have:=len_addO p.1 (p.2++[p.1]) (ovS l)
    omega
theorem nd_len {α:Type} [DecidableEq α]:∀ {S T:List α},S.Nodup→(∀ x∈S,x∈T)→S.length≤T.length
  | [],_,_,_=>Nat.zero_le _
  | x::S,T,hn,hs=>by
    obtain ⟨h1,h2⟩:=List.nodup_cons.1 hn
    have hx:=hs x (List.mem_cons_self ..)
    have:=nd_len (S:=S) (T:=T.erase x) h2 fun y hy=>by
      refine (List.mem_erase_of_ne ?_).2 (hs y (List.mem_cons_of_mem _ hy))
      rintro rfl;exact h1 hy
    rw [List.length_erase_of_mem hx] at this
    have:=List.length_pos_of_mem hx
    simp only [List.length_cons];omega
def univL (l:List Lif) (a:ByteArray):List ByteArray:=a::l.flatMap fun p=>p.2++[p.1]
theorem lk_univ {l:List Lif} {a x y:ByteArray} (h:y∈lkO (ovS l) x):y∈univL l a:=by
  obtain ⟨p,hp,e,h⟩:=(mem_lk l).1 h
  refine List.mem_cons_of_mem _ (List.mem_flatMap.2 ⟨p,hp,?_⟩)
  rcases h with h|h
  · exact List.mem_append_left _ h
  · rw [h,← e];simp
structure InvO (l:List Lif) (a:ByteArray) (S W:List ByteArray):Prop where
  mem:a∈S
  nd:S.Nodup
  uni:∀ x∈S,x∈univL l a
  sub:∀ x∈W,x∈S
  rch:∀ x∈S,RchL l a x
  shut:∀ x∈S,x∈W∨∀ y∈lkO (ovS l) x,y∈S
structure InvI (l:List Lif) (a x:ByteArray) (k:Nat) (S W:List ByteArray):Prop where
  mem:a∈S
  nd:S.Nodup
  uni:∀ x∈S,x∈univL l a
  sub:∀ x∈W,x∈S
  rch:∀ x∈S,RchL l a x
  own:x∈S
  shut:∀ z∈S,z=x∨z∈W∨∀ y∈lkO (ovS l) z,y∈S
  done:∀ y∈(lkO (ovS l) x).take k,y∈S
theorem InvO.start (l:List Lif) (a:ByteArray):InvO l a [a] [a] :=
  ⟨by simp,by simp,fun x h=>by rw [List.mem_singleton.1 h];exact List.mem_cons_self ..,fun x h=>h,fun x h=>by rw [List.mem_singleton.1 h];exact .refl,fun x h=>.inl h⟩
theorem InvO.len {l:List Lif} {a:ByteArray} {S W:List ByteArray} (h:InvO l a S W):S.length≤(univL l a).length:=nd_len h.nd h.uni
theorem InvI.len {l:List Lif} {a x:ByteArray} {k:Nat} {S W:List ByteArray} (h:InvI l a x k S W):S.length≤(univL l a).length:=nd_len h.nd h.uni
theorem InvO.pop {l:List Lif} {a x:ByteArray} {S W:List ByteArray} (h:InvO l a S (W++[x])):InvI l a x 0 S W :=
  ⟨h.mem,h.nd,h.uni,fun y hy=>h.sub y (List.mem_append_left _ hy),h.rch,h.sub x (by simp),fun z hz=>by
    rcases h.shut z hz with h1|h1
    · rcases List.mem_append.1 h1 with h1|h1
      · exact .inr (.inl h1)
      · exact .inl (List.mem_singleton.1 h1)
    · exact .inr (.inr h1),fun y hy=>by simp at hy⟩
theorem InvI.old {l:List Lif} {a x y:ByteArray} {k:Nat} {S W:List ByteArray} (h:InvI l a x k S W) (hk:(lkO (ovS l) x)[k]? = some y) (hy:y∈S):InvI l a x (k+1) S W :=
  { h with
    done:=fun z hz=>by
      rw [List.take_add_one,hk] at hz
      rcases List.mem_append.1 hz with hz|hz
      · exact h.done z hz
      · simp at hz;rw [hz];exact hy }
theorem InvI.new {l:List Lif} {a x y:ByteArray} {k:Nat} {S W:List ByteArray} (h:InvI l a x k S W) (hk:(lkO (ovS l) x)[k]? = some y) (hy:y∉S):InvI l a x (k+1) (S++[y]) (W++[y]):=by
  have hm:=List.mem_of_getElem? hk
  have hr:RchL l a y:=by
    obtain ⟨p,hp,e,h1⟩:=(mem_lk l).1 hm
    rcases h1 with h1|h1
    · exact .step (h.rch x h.own) ⟨p,hp,e,h1⟩
    · rw [h1] at hy;exact absurd h.own hy
  refine ⟨List.mem_append_left _ h.mem,?_,fun z hz=>?_,fun z hz=>?_,fun z hz=>?_,List.mem_append_left _ h.own,fun z hz=>?_,fun z hz=>?_⟩
  · rw [List.nodup_append]
    exact ⟨h.nd,by simp,fun u hu v hv=>by rw [List.mem_singleton.1 hv];rintro rfl;exact hy hu⟩
  · rcases List.mem_append.1 hz with hz|hz
    · exact h.uni z hz
    · rw [List.mem_singleton.1 hz];exact lk_univ hm
  · rcases List.mem_append.1 hz with hz|hz
    · exact List.mem_append_left _ (h.sub z hz)
    · exact List.mem_append_right _ hz
  · rcases List.mem_append.1 hz with hz|hz
    · exact h.rch z hz
    · rw [List.mem_singleton.1 hz];exact hr
  · rcases List.mem_append.1 hz with hz|hz
    · rcases h.shut z hz with h1|h1|h1
      · exact .inl h1
      · exact .inr (.inl (List.mem_append_left _ h1))
      · exact .inr (.inr fun u hu=>List.mem_append_left _ (h1 u hu))
    · exact .inr (.inl (List.mem_append_right _ hz))
  · rw [List.take_add_one,hk] at hz
    rcases List.mem_append.1 hz with hz|hz
    · exact List.mem_append_left _ (h.done z hz)
    · simp at hz;rw [hz];simp
theorem InvI.end {l:List Lif} {a x:ByteArray} {k:Nat} {S W:List ByteArray} (h:InvI l a x k S W) (hk:(lkO (ovS l) x).length≤k):InvO l a S W :=
  ⟨h.mem,h.nd,h.uni,h.sub,h.rch,fun z hz=>by
    rcases h.shut z hz with h1|h1
    · right
      subst h1
      intro y hy
      exact h.done y (by rw [List.take_of_length_le hk];exact hy)
    · exact h1⟩
theorem InvO.end {l:List Lif} {a b:ByteArray} {S:List ByteArray} (h:InvO l a S []):b∈S↔RchL l a b:=by
  refine ⟨h.rch b,fun hb=>?_⟩
  induction hb with
  | refl=>exact h.mem
  | step _ e ih =>
    rcases h.shut _ ih with h1|h1
    · cases h1
    · obtain ⟨p,hp,e1,e2⟩:=e
      exact h1 _ ((mem_lk l).2 ⟨p,hp,e1,.inl e2⟩)
structure InvR (l:List Lif) (a:ByteArray) (G:List ByteArray) (i k j:Nat):Prop where
  mem:a∈G
  nd:G.Nodup
  here:∀ x∈G,hereL l x
  rch:∀ x∈G,RchL l a x
  done:∀ u,u<i→∀ x,G[u]? = some x→∀ y,edgeL l x y→hereL l y→y∈G
  doneK:∀ u,u<k→∀ p,l[u]? = some p→∀ x,G[i]? = some x→p.1=x→∀ y∈p.2,hereL l y→y∈G
  doneJ:∀ p,l[k]? = some p→∀ x,G[i]? = some x→p.1=x→∀ y∈p.2.take j,hereL l y→y∈G
theorem InvR.start {l:List Lif} {a:ByteArray} (h:hereL l a):InvR l a [a] 0 0 0 :=
  ⟨by simp,by simp,fun x hx=>by rw [List.mem_singleton.1 hx];exact h,fun x hx=>by rw [List.mem_singleton.1 hx];exact .refl,fun u hu=>by omega,fun u hu=>by omega,fun p hp x hx e y hy=>by simp at hy⟩
theorem InvR.len {l:List Lif} {a:ByteArray} {G:List ByteArray} {i k j:Nat} (h:InvR l a G i k j):G.length≤l.length:=by
  have:=nd_len (T:=l.map (·.1)) h.nd fun x hx=>by
    obtain ⟨p,hp,e⟩:=h.here x hx
    exact List.mem_map.2 ⟨p,hp,e⟩
  rwa [List.length_map] at this
theorem get_app {α:Type} {G:List α} {y x:α} {i:Nat} (hi:i<G.length) (h:(G++[y])[i]? = some x):G[i]? = some x:=by rwa [List.getElem?_append_left hi] at h
theorem InvR.add {l:List Lif} {a y x:ByteArray} {G:List ByteArray} {i k j:Nat} {p:Lif} (h:InvR l a G i k j) (hi:G[i]? = some x) (hp:l[k]? = some p) (e:p.1=x) (hy:p.2[j]? = some y) (hh:hereL l y) (hn:y∉G):InvR l a (G++[y]) i k (j+1):=by
  have hl:=(List.getElem?_eq_some_iff.1 hi).1
  have hr:RchL l a y:=.step (h.rch x (List.mem_of_getElem? hi)) ⟨p,List.mem_of_getElem? hp,e,List.mem_of_getElem? hy⟩
  refine ⟨List.mem_append_left _ h.mem,?_,fun z hz=>?_,fun z hz=>?_,fun u hu z hz w e1 e2=>?_,fun u hu q hq z hz e1 w hw e2=>?_,fun q hq z hz e1 w hw e2=>?_⟩
  · rw [List.nodup_append]
    exact ⟨h.nd,by simp,fun u hu v hv=>by rw [List.mem_singleton.1 hv];rintro rfl;exact hn hu⟩
  · rcases List.mem_append.1 hz with hz|hz
    · exact h.here z hz
    · rw [List.mem_singleton.1 hz];exact hh
  · rcases List.mem_append.1 hz with hz|hz
    · exact h.rch z hz
    · rw [List.mem_singleton.1 hz];exact hr
  · exact List.mem_append_left _ (h.done u hu z (get_app (by omega) hz) w e1 e2)
  · exact List.mem_append_left _ (h.doneK u hu q hq z (get_app hl hz) e1 w hw e2)
  · rw [hp] at hq;cases hq
    rw [List.take_add_one,hy] at hw
    rcases List.mem_append.1 hw with hw|hw
    · exact List.mem_append_left _ (h.doneJ p hp z (get_app hl hz) e1 w hw e2)
    · simp at hw;rw [hw];simp
theorem InvR.end {l:List Lif} {a b:ByteArray} {G:List ByteArray} {i k j:Nat} (h:InvR l a G i k j) (hi:G.length≤i):b∈G↔hereL l b∧RchL l a b:=by
  have key:∀ b,RchL l a b→hereL l b→b∈G:=by
    intro b hr
    induction hr with
    | refl=>intro _;exact h.mem
    | step _ e ih =>
      intro hb
      obtain ⟨p,hp,e1,e2⟩:=e
      have hx:=ih ⟨p,hp,e1⟩
      obtain ⟨u,hu⟩:=List.getElem?_of_mem hx
      exact h.done u (by have:=(List.getElem?_eq_some_iff.1 hu).1;omega) _ hu _ ⟨p,hp,e1,e2⟩ hb
  exact ⟨fun hb=>⟨h.here b hb,h.rch b hb⟩,fun hb=>key b hb.2 hb.1⟩
def enO (es:List Lif):List (V × Nat × List V):=es.map fun p=>(.str p.1,p.2.length,p.2.flatMap cS)
theorem eqK_str (s t:ByteArray):eqK (.str s) (.str t)=decide (s=t):=by
  simp only [eqK]
  by_cases e:s=t
  · subst e;rw [bytes_refl,decide_eq_true rfl]
  · rw [decide_eq_false e]
    cases h:s == t with
    | false=>rfl
    | true=>exact absurd (bytes_eq h) e
theorem ix_en (s:ByteArray):∀ es:List Lif,ixK (.str s) (enO es)=ixO s es
  | []=>rfl
  | p::r=>by
    simp only [enO,List.map_cons,ixK,ixO,eqK_str]
    have:=ix_en s r
    simp only [enO] at this
    rw [this]
    by_cases e:s=p.1<;>simp [e]
def seE (S:List ByteArray):List (V × V):=S.map fun s=>(.str s,.int .i64 1)
theorem find_seE (y:ByteArray):∀ S:List ByteArray,(∃ j,findK (.str y) (seE S)=some (j,.int .i64 1)∧y∈S)∨(findK (.str y) (seE S)=none∧y∉S)
  | []=>.inr ⟨rfl,by simp⟩
  | s::S=>by
    simp only [seE,List.map_cons,findK,eqK_str]
    by_cases e:y=s
    · subst e;exact .inl ⟨0,by simp,by simp⟩
    · rcases find_seE y S with ⟨j,h1,h2⟩|⟨h1,h2⟩
      · refine .inl ⟨j+1,?_,List.mem_cons_of_mem _ h2⟩
        simp only [seE] at h1
        simp [e,h1]
      · refine .inr ⟨?_,by simp [e,h2]⟩
        simp only [seE] at h1
        simp [e,h1]
theorem seE_app (S:List ByteArray) (y:ByteArray):seE S++[(.str y,.int .i64 1)]=seE (S++[y]):=by simp [seE]
end Go.Lg

namespace Go.Proofs.YtlnphjjhfgghkaaGreatDoor
open Go Go.Lg
set_option maxRecDepth 100000
def lcv15:LC:=.seq (.rego 0 [⟨some 3,.box (.tmp 0),none⟩,⟨some 6,.mov (.con (.bool false)),none⟩]) (.keep [1,2,3] (.seq (.rego 1 [⟨some 15,.mkmap,none⟩,⟨some 7,.mov (.tmp 15),none⟩]) (.keep [1,2,3,7] (.seq (.seq (.rego 2 [⟨some 16,.fad 2 (.tmp 3),none⟩,⟨some 17,.load false 1 (.tmp 16),none⟩,⟨some 18,.len false (.tmp 17),none⟩,⟨some 19,.mov (.con (.int .i64 0)),none⟩]) (.keep [1,2,7,17,18,19] (.block 0 (.loop (.seq (.rego 3 [⟨some 20,.bin .lss (.tmp 19) (.tmp 18),none⟩]) (.keep [1,2,7,17,18,19,20] (.seq (.cond (.tmp 20) .skip (.exit 0)) (.keep [1,2,7,17,18,19] (.seq (.block 1 (.seq (.rego 4 [⟨some 21,.iaS 2 (.tmp 17) (.tmp 19),none⟩,⟨some 22,.load true 2 (.tmp 21),none⟩,⟨some 9,.new [.str { data:=#[] },.e0],none⟩,⟨none,.store 2 (.tmp 9) (.tmp 22),none⟩]) (.keep [1,2,7,9,17,18,19] (.seq (.regd 5 [0,0,2,0,0,16,56,0,128,504,1023] [⟨some 23,.mov (.tmp 7),none⟩,⟨some 24,.fad 0 (.tmp 9),none⟩,⟨some 25,.load false 1 (.tmp 24),none⟩,⟨some 26,.mov (.tmp 7),none⟩,⟨some 27,.fad 0 (.tmp 9),none⟩,⟨some 28,.load false 1 (.tmp 27),none⟩,⟨some 29,.mlk KT.str false .e0 (.tmp 26) (.tmp 28),none⟩,⟨some 30,.fad 1 (.tmp 9),none⟩,⟨some 31,.load false 1 (.tmp 30),none⟩,⟨some 32,.app 1 16 (.tmp 29) (.tmp 31),none⟩,⟨none,.mset KT.str (.tmp 23) (.tmp 25) (.tmp 32),none⟩]) (.keep [1,2,7,9,17,18,19] (.regd 6 [0,0,2,0,0,16,56,0,128,384,1016,2047] [⟨some 33,.mov (.tmp 7),none⟩,⟨some 34,.fad 0 (.tmp 9),none⟩,⟨some 35,.load false 1 (.tmp 34),none⟩,⟨some 36,.mov (.tmp 7),none⟩,⟨some 37,.fad 0 (.tmp 9),none⟩,⟨some 38,.load false 1 (.tmp 37),none⟩,⟨some 39,.mlk KT.str false .e0 (.tmp 36) (.tmp 38),none⟩,⟨some 40,.fad 0 (.tmp 9),none⟩,⟨some 41,.load false 1 (.tmp 40),none⟩,⟨some 42,.bsl 1 [.str { data:=#[] }] [⟨0,1,.tmp 41⟩],none⟩,⟨some 43,.app 1 16 (.tmp 39) (.tmp 42),none⟩,⟨none,.mset KT.str (.tmp 33) (.tmp 35) (.tmp 43),none⟩])))))) (.keep [1,2,7,17,18,19] (.rego 7 [⟨some 44,.bin .add (.tmp 19) (.con (.int .i64 1)),none⟩,⟨some 19,.mov (.tmp 44),none⟩]))))))))))) (.keep [1,2,7] (.seq (.seq (.rego 8 [⟨some 45,.mov (.tmp 7),none⟩,⟨some 46,.mov (.tmp 1),none⟩,⟨some 47,.mlk KT.str false .e0 (.tmp 45) (.tmp 46),none⟩,⟨some 48,.len false (.tmp 47),none⟩,⟨some 49,.bin .eql (.tmp 48) (.con (.int .i64 0)),none⟩,⟨some 50,.mov (.tmp 49),none⟩,⟨some 51,.mov (.tmp 7),some ⟨50,false⟩⟩,⟨some 52,.mov (.tmp 2),some ⟨50,false⟩⟩,⟨some 53,.mlk KT.str false .e0 (.tmp 51) (.tmp 52),some ⟨50,false⟩⟩,⟨some 54,.len false (.tmp 53),some ⟨50,false⟩⟩,⟨some 55,.bin .eql (.tmp 54) (.con (.int .i64 0)),some ⟨50,false⟩⟩,⟨some 56,.pick (.tmp 50) (.con (.bool true)) (.tmp 55),none⟩]) (.keep [1,2,7,56] (.cond (.tmp 56) (.keep [] (.seq (.rego 9 [⟨some 6,.mov (.con (.bool false)),none⟩]) .ret)) .skip))) (.keep [1,2,7] (.seq (.rego 10 [⟨some 57,.mkmap,none⟩,⟨some 58,.mov (.tmp 1),none⟩,⟨none,.mset KT.str (.tmp 57) (.tmp 58) (.con (.int .i64 1)),none⟩,⟨some 59,.mov (.tmp 57),none⟩,⟨some 10,.mov (.tmp 59),none⟩]) (.keep [1,2,7,10] (.seq (.regb 11 [⟨false,⟨some 60,.mov (.tmp 1),none⟩⟩,⟨true,⟨some 61,.bsl 1 [.str { data:=#[] }] [⟨0,1,.tmp 60⟩],none⟩⟩,⟨false,⟨some 11,.mov (.tmp 61),none⟩⟩]) (.keep [2,7,10,11] (.seq (.block 2 (.loop (.seq (.seq (.rego 12 [⟨some 62,.mov (.tmp 11),none⟩,⟨some 63,.len false (.tmp 62),none⟩,⟨some 64,.bin .gtr (.tmp 63) (.con (.int .i64 0)),none⟩]) (.keep [2,7,10,11,64] (.cond (.tmp 64) .skip (.exit 2)))) (.keep [2,7,10,11] (.block 3 (.seq (.rego 13 [⟨some 65,.mov (.tmp 11),none⟩,⟨some 66,.mov (.tmp 11),none⟩,⟨some 67,.len false (.tmp 66),none⟩,⟨some 68,.bin .sub (.tmp 67) (.con (.int .i64 1)),none⟩,⟨some 69,.iaS 1 (.tmp 65) (.tmp 68),none⟩,⟨some 70,.load false 1 (.tmp 69),none⟩,⟨some 12,.mov (.tmp 70),none⟩]) (.keep [2,7,10,11,12] (.seq (.rego 14 [⟨some 71,.mov (.tmp 11),none⟩,⟨some 72,.mov (.tmp 11),none⟩,⟨some 73,.len false (.tmp 72),none⟩,⟨some 74,.bin .sub (.tmp 73) (.con (.int .i64 1)),none⟩,⟨some 75,.slV 1 (.tmp 71) none (some (.tmp 74)),none⟩,⟨some 11,.mov (.tmp 75),none⟩]) (.keep [2,7,10,11,12] (.seq (.rego 15 [⟨some 76,.mov (.tmp 7),none⟩,⟨some 77,.mov (.tmp 12),none⟩,⟨some 78,.mlk KT.str false .e0 (.tmp 76) (.tmp 77),none⟩,⟨some 79,.len false (.tmp 78),none⟩,⟨some 80,.mov (.con (.int .i64 0)),none⟩]) (.keep [2,7,10,11,78,79,80] (.block 4 (.loop (.seq (.rego 16 [⟨some 81,.bin .lss (.tmp 80) (.tmp 79),none⟩]) (.keep [2,7,10,11,78,79,80,81] (.seq (.cond (.tmp 81) .skip (.exit 4)) (.keep [2,7,10,11,78,79,80] (.seq (.block 5 (.seq (.rego 17 [⟨some 82,.iaS 1 (.tmp 78) (.tmp 80),none⟩,⟨some 83,.load false 1 (.tmp 82),none⟩,⟨some 14,.mov (.tmp 83),none⟩]) (.keep [2,7,10,11,14,78,79,80] (.seq (.rego 18 [⟨some 84,.mov (.tmp 10),none⟩,⟨some 85,.mov (.tmp 14),none⟩,⟨some 86,.mlk KT.str false (.int .i64 0) (.tmp 84) (.tmp 85),none⟩,⟨some 87,.bin .eql (.tmp 86) (.con (.int .i64 0)),none⟩]) (.keep [2,7,10,11,14,78,79,80,87] (.cond (.tmp 87) (.keep [2,7,10,11,14,78,79,80] (.seq (.rego 19 [⟨some 88,.mov (.tmp 10),none⟩,⟨some 89,.mov (.tmp 14),none⟩,⟨none,.mset KT.str (.tmp 88) (.tmp 89) (.con (.int .i64 1)),none⟩]) (.keep [2,7,10,11,14,78,79,80] (.rego 20 [⟨some 90,.mov (.tmp 11),none⟩,⟨some 91,.mov (.tmp 14),none⟩,⟨some 92,.bsl 1 [.str { data:=#[] }] [⟨0,1,.tmp 91⟩],none⟩,⟨some 93,.app 1 16 (.tmp 90) (.tmp 92),none⟩,⟨some 11,.mov (.tmp 93),none⟩])))) .skip)))))) (.keep [2,7,10,11,78,79,80] (.rego 21 [⟨some 94,.bin .add (.tmp 80) (.con (.int .i64 1)),none⟩,⟨some 80,.mov (.tmp 94),none⟩])))))))))))))))))))) (.keep [2,10] (.seq (.rego 22 [⟨some 95,.mov (.tmp 10),none⟩,⟨some 96,.mov (.tmp 2),none⟩,⟨some 97,.mlk KT.str false (.int .i64 0) (.tmp 95) (.tmp 96),none⟩,⟨some 98,.bin .eql (.tmp 97) (.con (.int .i64 1)),none⟩,⟨some 6,.mov (.tmp 98),none⟩]) .ret))))))))))))))
theorem fdv15:fnData Tryz.prog 15=some (99,lcv15.erase,[LRV.tmp 6]):=by kernel_rfl
end Go.Proofs.YtlnphjjhfgghkaaGreatDoor

namespace Go.Lg.Sh
open Go Go.Lg
def m (d s:Nat):LOp:=⟨some d,.mov (.tmp s),none⟩
def f (d k s:Nat):LOp:=⟨some d,.fad k (.tmp s),none⟩
def l (d n s:Nat):LOp:=⟨some d,.load false n (.tmp s),none⟩
def L (d n s:Nat):LOp:=⟨some d,.load true n (.tmp s),none⟩
def e (d s:Nat) (n:Int):LOp:=⟨some d,.bin .eql (.tmp s) (.con (.int .i64 n)),none⟩
def p (d x y:Nat):LOp:=⟨some d,.pick (.tmp x) (.tmp y) (.con (.bool false)),none⟩
def q (d x y:Nat):LOp:=⟨some d,.pick (.tmp x) (.con (.bool true)) (.tmp y),none⟩
def i (d:Nat) (n:Int):LOp:=⟨some d,.mov (.con (.int .i64 n)),none⟩
def n (d s:Nat):LOp:=⟨some d,.len false (.tmp s),none⟩
def a (d s:Nat) (n:Int):LOp:=⟨some d,.bin .add (.tmp s) (.con (.int .i64 n)),none⟩
def x (d k s t:Nat):LOp:=⟨some d,.iaS k (.tmp s) (.tmp t),none⟩
def b0 (d:Nat):LOp:=⟨some d,.mov (.con (.bool false)),none⟩
def b1 (d:Nat):LOp:=⟨some d,.mov (.con (.bool true)),none⟩
def s (d x y:Nat):LOp:=⟨some d,.bin .lss (.tmp x) (.tmp y),none⟩
def u (d x:Nat):LOp:=⟨some d,.un .not (.tmp x),none⟩
def k (d x:Nat):LOp:=⟨some d,.nilchk (.tmp x),none⟩
def o (d x:Nat):LOp:=⟨some d,.box (.tmp x),none⟩
def E (d x y:Nat):LOp:=⟨some d,.bin .eql (.tmp x) (.tmp y),none⟩
def N (d s:Nat) (n:Int):LOp:=⟨some d,.bin .neq (.tmp s) (.con (.int .i64 n)),none⟩
def c (d f x:Nat):LOp:=⟨some d,.call f [.tmp x],none⟩
def C (d f x y:Nat):LOp:=⟨some d,.call f [.tmp x,.tmp y],none⟩
def X (d x k:Nat):LOp:=⟨some d,.ext (.tmp x) k,none⟩
def g (t:Nat) (y:LOp):LOp:=⟨y.dst,y.op,some (t,false)⟩
def h (t:Nat) (y:LOp):LOp:=⟨y.dst,y.op,some (t,true)⟩
def W (n a x:Nat):LOp:=⟨none,.store n (.tmp a) (.tmp x),none⟩
def t (l:List UInt8):V:=.str ⟨l.toArray⟩
def I (n:Int):Rd:=.con (.int .i64 n)
def r (k:Nat) (l:List LOp):LC:=.rego k l
def z (a b:LC):LC:=.seq a b
def y (t:Nat) (a b:LC):LC:=.cond (.tmp t) a b
def w (t k:Nat):LC:=.cond (.tmp t) .skip (.exit k)
def K (l:List Nat) (a:LC):LC:=.keep l a
end Go.Lg.Sh

namespace Go.Lg
theorem ShA:(∀ (l:List Nat) (a:LC),Sh.K l a = .keep l a)∧(∀ (t k:Nat),Sh.w t k = .cond (.tmp t) .skip (.exit k))∧(∀ (t:Nat) (a b:LC),Sh.y t a b = .cond (.tmp t) a b)∧(∀ (a b:LC),Sh.z a b = .seq a b)∧(∀ (k:Nat) (l:List LOp),Sh.r k l = .rego k l)∧(∀ (d s:Nat),Sh.m d s=⟨some d,.mov (.tmp s),none⟩)∧(∀ (d k s:Nat),Sh.f d k s=⟨some d,.fad k (.tmp s),none⟩)∧(∀ (d n s:Nat),Sh.l d n s=⟨some d,.load false n (.tmp s),none⟩)∧(∀ (d n s:Nat),Sh.L d n s=⟨some d,.load true n (.tmp s),none⟩)∧(∀ (d s:Nat) (n:Int),Sh.e d s n=⟨some d,.bin .eql (.tmp s) (.con (.int .i64 n)),none⟩)∧(∀ (d x y:Nat),Sh.p d x y=⟨some d,.pick (.tmp x) (.tmp y) (.con (.bool false)),none⟩)∧(∀ (d x y:Nat),Sh.q d x y=⟨some d,.pick (.tmp x) (.con (.bool true)) (.tmp y),none⟩)∧(∀ (d:Nat) (n:Int),Sh.i d n=⟨some d,.mov (.con (.int .i64 n)),none⟩)∧(∀ (d s:Nat),Sh.n d s=⟨some d,.len false (.tmp s),none⟩)∧(∀ (d s:Nat) (n:Int),Sh.a d s n=⟨some d,.bin .add (.tmp s) (.con (.int .i64 n)),none⟩)∧(∀ (d k s t:Nat),Sh.x d k s t=⟨some d,.iaS k (.tmp s) (.tmp t),none⟩)∧(∀ (d:Nat),Sh.b0 d=⟨some d,.mov (.con (.bool false)),none⟩)∧(∀ (d:Nat),Sh.b1 d=⟨some d,.mov (.con (.bool true)),none⟩)∧(∀ (d x y:Nat),Sh.s d x y=⟨some d,.bin .lss (.tmp x) (.tmp y),none⟩)∧(∀ (d x:Nat),Sh.u d x=⟨some d,.un .not (.tmp x),none⟩)∧(∀ (d x:Nat),Sh.k d x=⟨some d,.nilchk (.tmp x),none⟩)∧(∀ (d x:Nat),Sh.o d x=⟨some d,.box (.tmp x),none⟩)∧(∀ (d x y:Nat),Sh.E d x y=⟨some d,.bin .eql (.tmp x) (.tmp y),none⟩)∧(∀ (d s:Nat) (n:Int),Sh.N d s n=⟨some d,.bin .neq (.tmp s) (.con (.int .i64 n)),none⟩)∧(∀ (d f x:Nat),Sh.c d f x=⟨some d,.call f [.tmp x],none⟩)∧(∀ (d f x y:Nat),Sh.C d f x y=⟨some d,.call f [.tmp x,.tmp y],none⟩)∧(∀ (d x k:Nat),Sh.X d x k=⟨some d,.ext (.tmp x) k,none⟩)∧(∀ (t:Nat) (y:LOp),Sh.g t y=⟨y.dst,y.op,some (t,false)⟩)∧(∀ (t:Nat) (y:LOp),Sh.h t y=⟨y.dst,y.op,some (t,true)⟩)∧(∀ (n a x:Nat),Sh.W n a x=⟨none,.store n (.tmp a) (.tmp x),none⟩):=And.intro (fun _ _=>rfl) (And.intro (fun _ _=>rfl) (And.intro (fun _ _ _=>rfl) (And.intro (fun _ _=>rfl) (And.intro (fun _ _=>rfl) (And.intro (fun _ _=>rfl) (And.intro (fun _ _ _=>rfl) (And.intro (fun _ _ _=>rfl) (And.intro (fun _ _ _=>rfl) (And.intro (fun _ _ _=>rfl) (And.intro (fun _ _ _=>rfl) (And.intro (fun _ _ _=>rfl) (And.intro (fun _ _=>rfl) (And.intro (fun _ _=>rfl) (And.intro (fun _ _ _=>rfl) (And.intro (fun _ _ _ _=>rfl) (And.intro (fun _=>rfl) (And.intro (fun _=>rfl) (And.intro (fun _ _ _=>rfl) (And.intro (fun _ _=>rfl) (And.intro (fun _ _=>rfl) (And.intro (fun _ _=>rfl) (And.intro (fun _ _ _=>rfl) (And.intro (fun _ _ _=>rfl) (And.intro (fun _ _ _=>rfl) (And.intro (fun _ _ _ _=>rfl) (And.intro (fun _ _ _=>rfl) (And.intro (fun _ _=>rfl) (And.intro (fun _ _=>rfl) ((fun _ _ _=>rfl))))))))))))))))))))))))))))))
theorem VCA:type_of% (And.intro ShA (And.intro VC0 (And.intro VC1 (And.intro VC2 (And.intro VC3 (And.intro VC4 (And.intro VC5 (And.intro VC6 (And.intro VC7 (And.intro VC8 VC9)))))))))):=And.intro ShA (And.intro VC0 (And.intro VC1 (And.intro VC2 (And.intro VC3 (And.intro VC4 (And.intro VC5 (And.intro VC6 (And.intro VC7 (And.intro VC8 VC9)))))))))
theorem sc11 (a b:V):setCells [a] 0 [b]=[b]:=rfl
theorem MCA:type_of% (And.intro sc11 (And.intro @ld_cI (And.intro @ld_cB (And.intro @ld_cS (And.intro @ld_one (And.intro @ld_cI0 (And.intro @setCells_all (And.intro @li_len (And.intro @li_snap (And.intro @li_sok (And.intro @li_one (And.intro @li_imv (And.intro @li_flat (And.intro @li_take (And.intro @li_set (And.intro @li_app (And.intro @li_mk (And.intro @lb_len (And.intro @lb_snap (And.intro @lb_sok (And.intro @lb_one (And.intro @lb_imv (And.intro @lb_flat (And.intro @lb_take (And.intro @lb_set (And.intro @lb_app (And.intro @lb_mk (And.intro @ls_len (And.intro @ls_snap (And.intro @ls_sok (And.intro @ls_one (And.intro @ls_imv (And.intro @ls_flat (And.intro @ls_take (And.intro @ls_set (And.intro @ls_app (And.intro (@List.mem_singleton V) (And.intro (@List.length_replicate V) (And.intro (@List.length_set V) (And.intro (@List.length_append V) (And.intro (@List.length_map V V) (@List.length_range)))))))))))))))))))))))))))))))))))))))))):=And.intro sc11 (And.intro @ld_cI (And.intro @ld_cB (And.intro @ld_cS (And.intro @ld_one (And.intro @ld_cI0 (And.intro @setCells_all (And.intro @li_len (And.intro @li_snap (And.intro @li_sok (And.intro @li_one (And.intro @li_imv (And.intro @li_flat (And.intro @li_take (And.intro @li_set (And.intro @li_app (And.intro @li_mk (And.intro @lb_len (And.intro @lb_snap (And.intro @lb_sok (And.intro @lb_one (And.intro @lb_imv (And.intro @lb_flat (And.intro @lb_take (And.intro @lb_set (And.intro @lb_app (And.intro @lb_mk (And.intro @ls_len (And.intro @ls_snap (And.intro @ls_sok (And.intro @ls_one (And.intro @ls_imv (And.intro @ls_flat (And.intro @ls_take (And.intro @ls_set (And.intro @ls_app (And.intro (@List.mem_singleton V) (And.intro (@List.length_replicate V) (And.intro (@List.length_set V) (And.intro (@List.length_append V) (And.intro (@List.length_map V V) (@List.length_range)))))))))))))))))))))))))))))))))))))))))
end Go.Lg

namespace Go.Lg
open Go Go.RowKit
section
variable {P:Program}
def evP (P:Program) (s:Nat) (o:LOp) (tm:Nat→V) (R:List (Key × LObj)) (v:V):Prop :=
  ∀ σ:St,(∀ t∈o.slots,σ.tm t=tm t)→(∀ p∈R,σ.H p.1=some p.2)→∀ K:St→Prop,K (σ.put o.dst v)→vstepM P s o K σ
def evB (P:Program) (s:Nat) (o:LOp) (tm:Nat→V) (H:Heap) (c:Nat→Nat) (H1:Heap) (c1:Nat→Nat) (v:V):Prop :=
  ∀ tm':Nat→V,(∀ t∈o.slots,tm' t=tm t)→∀ K:St→Prop,K (St.put ⟨tm',H1,c1⟩ o.dst v)→vstepM P s o K ⟨tm',H,c⟩
inductive Fd where
  | rd (R:List Key)
  | big
  | any
def walkD (P:Program) (rid:Nat) (kp:List (Key × LObj)) (fin:List Fd→Prop):List LOp→Nat→List Fd→(St→Prop)→St→Prop
  | [],_,fs,K,σ=>fin fs∧K σ
  | o::os,i,fs,K,σ=>(∃ R v,evP P (siteOf rid i) o σ.tm R v∧(∀ p∈R,σ.H p.1=some p.2)∧walkD P rid kp fin os (i+1) (fs++[.rd (R.map (·.1))]) K (σ.put o.dst v)) ∨
      (∃ H1 c1 v,evB P (siteOf rid i) o σ.tm σ.H σ.cnt H1 c1 v∧(∀ p∈kp,H1 p.1=some p.2)∧walkD P rid kp fin os (i+1) (fs++[.big]) K (St.put ⟨σ.tm,H1,c1⟩ o.dst v)) ∨
      (os=[]∧∃ H1 c1 v,evB P (siteOf rid i) o σ.tm σ.H σ.cnt H1 c1 v∧fin (fs++[.any])∧K (St.put ⟨σ.tm,H1,c1⟩ o.dst v))
def bigOk (kp:List Key):Fd→Fd→Bool
  | .big,.rd R=>R.all kp.contains
  | .rd R,.big=>R.all kp.contains
  | .rd _,.rd _=>true
  | .any,.rd R | .rd R,.any=>R.isEmpty
  | _,_=>false
def bdOk (bs:List Nat) (ops:List LOp) (kp:List Key) (fs:List Fd):Bool :=
  (List.range ops.length).all fun i=>(List.range i).all fun j=>(bs.getD i 0).testBit j || (apartO (loAt ops j) (loAt ops i) && bigOk kp (fs.getD j .any) (fs.getD i .any))
def EvD (kp:List (Key × LObj)) (e:Ev):Fd→Prop
  | .big=>∃ b,e.big=some b∧e.rd=[]∧(∀ p∈kp,b.H0 p.1=some p.2∧b.H1 p.1=some p.2)∧e.w=none∧e.nw=false
  | .any=>True
  | .rd R=>e.big=none∧e.w=none∧e.nw=false∧(∀ p∈e.rd,p.1∈R)∧∀ p∈e.rd,∀ q∈kp,p.1=q.1→p.2=q.2
theorem walkD_run {rid:Nat} {kp:List (Key × LObj)} {fin:List Fd→Prop} {los:List LOp} {K:St→Prop}:∀ (ops:List LOp) (i:Nat),ops=los.drop i→i+ops.length=los.length→∀ (fs:List Fd) (σ:St),(∀ p∈kp,σ.H p.1=some p.2)→walkD P rid kp fin ops i fs K σ →
    ∃ (ev:Nat→Ev) (gs:List Fd) (σe:St),(∀ k,i≤k→k<los.length→EvOk P (siteOf rid k) (loAt los k) (ev k)∧EvD kp (ev k) (gs.getD (k - i) .any))∧RunE rid (loAt los) ev (List.range' i ops.length) σ σe∧fin (fs++gs)∧K σe
  | [],i,hd,hn,fs,σ,hkp,h=>by
    refine ⟨fun _=>⟨.junk,[],none,false,fun _=>.junk,none⟩,[],σ,fun k h1 h2=>by simp at hn;omega,rfl,?_,h.2⟩
    rw [List.append_nil];exact h.1
  | p::ops,i,hd,hn,fs,σ,hkp,h=>by
    have one:(∃ (f:Fd) (ev0:Ev) (σ1:St),walkD P rid kp fin ops (i+1) (fs++[f]) K σ1∧EvOk P (siteOf rid i) p ev0∧rdyE (siteOf rid i) p ev0 σ∧apE (siteOf rid i) p.dst ev0 σ=σ1∧EvD kp ev0 f∧∀ q∈kp,σ1.H q.1=some q.2)∨(ops=[]∧∃ (f:Fd) (ev0:Ev) (σ1:St),fin (fs++[f])∧K σ1∧EvOk P (siteOf rid i) p ev0∧rdyE (siteOf rid i) p ev0 σ∧apE (siteOf rid i) p.dst ev0 σ=σ1∧EvD kp ev0 f):=by
      rw [walkD] at h
      have big:∀ {H1:Heap} {c1:Nat→Nat} {v:V},evB P (siteOf rid i) p σ.tm σ.H σ.cnt H1 c1 v→EvOk P (siteOf rid i) p ⟨v,[],none,false,σ.tm,some ⟨σ.H,σ.cnt,H1,c1⟩⟩:=by
        rintro H1 c1 v h1 σ' ⟨⟨t1,_,_⟩,t4⟩ K' hK
        obtain ⟨b1,b2⟩:=t4 _ rfl
        have e:σ' = ⟨σ'.tm,σ.H,σ.cnt⟩:=by
          cases σ';simp only at b1 b2;subst b1 b2;rfl
        rw [e]
        exact ⟨_,Ent.refl _,.inl (h1 σ'.tm t1 K' hK)⟩
      rcases h with ⟨R,v,h1,h2,h3⟩|⟨H1,c1,v,h1,h2,h3⟩|⟨h0,H1,c1,v,h1,h2,h3⟩
      · refine .inl ⟨_,⟨v,R,none,false,σ.tm,none⟩,_,h3,?_,⟨⟨fun _ _=>rfl,h2,fun h=>(by cases h)⟩,fun b h=>(by cases h)⟩,rfl,⟨rfl,rfl,rfl,fun q hq=>List.mem_map_of_mem hq,fun q hq r hr e=>?_⟩,hkp⟩
        · rintro σ' ⟨⟨t1,t2,_⟩,_⟩ K' hK
          exact ⟨σ',Ent.refl _,.inl (h1 σ' t1 t2 K' hK)⟩
        · have e1:=h2 q hq
          rw [e,hkp r hr] at e1
          exact (Option.some.inj e1).symm
      · exact .inl ⟨_,⟨v,[],none,false,σ.tm,some ⟨σ.H,σ.cnt,H1,c1⟩⟩,_,h3,big h1,⟨⟨fun _ _=>rfl,fun q h=>(by cases h),fun h=>(by cases h)⟩,fun b h=>(by cases h;exact ⟨rfl,rfl⟩)⟩,rfl,⟨_,rfl,rfl,fun q hq=>⟨hkp q hq,h2 q hq⟩,rfl,rfl⟩,h2⟩
      · exact .inr ⟨h0,.any,⟨v,[],none,false,σ.tm,some ⟨σ.H,σ.cnt,H1,c1⟩⟩,_,h2,h3,big h1,⟨⟨fun _ _=>rfl,fun q h=>(by cases h),fun h=>(by cases h)⟩,fun b h=>(by cases h;exact ⟨rfl,rfl⟩)⟩,rfl,trivial⟩
    have hd1:ops=los.drop (i+1):=by rw [← List.tail_drop,← hd];rfl
    have hlo:loAt los i=p:=by
      have:=congrArg (fun l=>l[0]?) hd
      simp only [List.getElem?_cons_zero,List.getElem?_drop,Nat.add_zero] at this
      simp only [loAt,List.getD_eq_getElem?_getD,← this,Option.getD_some]
    rcases one with ⟨f,ev0,σ1,h3,v1,v2,v3,v4,v5⟩|⟨h0,f,ev0,σ1,h3,h4,v1,v2,v3,v4⟩
    case inr =>
      subst h0
      refine ⟨fun _=>ev0,[f],σ1,fun k k1 k2=>?_,?_,h3,h4⟩
      · obtain rfl:k=i:=by simp only [List.length_cons,List.length_nil] at hn;omega
        rw [hlo,Nat.sub_self]
        exact ⟨v1,v4⟩
      · refine ⟨?_,?_⟩
        · rw [hlo];exact v2
        · rw [hlo];exact v3.symm
    obtain ⟨ev,gs,σe,w1,w2,w3,w4⟩:=walkD_run ops (i+1) hd1 (by simp only [List.length_cons] at hn;omega) _ σ1 v5 h3
    refine ⟨fun k=>if k=i then ev0 else ev k,f::gs,σe,fun k k1 k2=>?_,?_,by rw [List.append_assoc] at w3;exact w3,w4⟩
    · by_cases hk:k=i
      · subst hk
        simp only [if_true,hlo,Nat.sub_self]
        exact ⟨v1,v4⟩
      · simp only [if_neg hk]
        obtain ⟨x1,x2⟩:=w1 k (by omega) k2
        have hs:k - i=(k - (i+1))+1:=by omega
        rw [hs,List.getD_cons_succ]
        exact ⟨x1,x2⟩
    · have cong:∀ (l:List Nat) (a b:St),(∀ j∈l,i<j)→RunE rid (loAt los) ev l a b→RunE rid (loAt los) (fun k=>if k=i then ev0 else ev k) l a b:=by
        intro l
        induction l with
        | nil=>intro a b _ h;exact h
        | cons j r ih =>
          intro a b hl h
          have hj:=hl j (List.mem_cons_self ..)
          have e:(if j=i then ev0 else ev j)=ev j:=if_neg (by omega)
          refine ⟨?_,?_⟩
          · show rdyE _ _ (if j=i then ev0 else ev j) _
            rw [e];exact h.1
          · show RunE _ _ _ _ (apE _ _ (if j=i then ev0 else ev j) _) _
            rw [e];exact ih _ _ (fun k hk=>hl k (List.mem_cons_of_mem _ hk)) h.2
      rw [List.length_cons,List.range'_succ]
      refine ⟨?_,?_⟩
      · simp only [if_true,hlo];exact v2
      · simp only [if_true,hlo,v3]
        exact cong _ _ _ (fun j hj=>by have:=(List.mem_range'_1.1 hj).1;omega) w2
theorem vregd_D {rid:Nat} {bs:List Nat} {kp:List (Key × LObj)} {los:List LOp} {K:St→Prop} {σ:St} (hkp:∀ p∈kp,σ.H p.1=some p.2) (h:walkD P rid kp (fun fs=>bdOk bs los (kp.map (·.1)) fs=true) los 0 [] K σ):vregd P rid bs los K σ:=by
  obtain ⟨ev,gs,σe,w1,w2,w3,w4⟩:=walkD_run los 0 rfl (by simp) [] σ hkp h
  rw [List.nil_append] at w3
  refine ⟨ev,fun i hi=>(w1 i (Nat.zero_le _) hi).1,fun i j hj hi hb=>?_,σe,by rw [List.range_eq_range'];exact w2,w4⟩
  have h1:=List.all_eq_true.1 w3 i (List.mem_range.2 hi)
  have h2:=List.all_eq_true.1 h1 j (List.mem_range.2 hj)
  rw [hb] at h2
  simp only [Bool.false_or,Bool.and_eq_true] at h2
  obtain ⟨a1,a2⟩:=h2
  obtain ⟨_,fi⟩:=w1 i (Nat.zero_le _) hi
  obtain ⟨_,fj⟩:=w1 j (Nat.zero_le _) (by omega)
  rw [Nat.sub_zero] at fi fj
  refine ⟨a1,?_⟩
  have calmB':∀ (e f:Ev) (R:List Key),EvD kp e .big→EvD kp f (.rd R)→R.all (kp.map (·.1)).contains=true→calmB e f:=by
    rintro e f R ⟨b,hb,_,hk,_,_⟩ ⟨f1,f2,f3,f4,f5⟩ hR
    refine ⟨b,hb,f2,f3,f1,fun p hp=>?_⟩
    have hm:=List.all_eq_true.1 hR p.1 (f4 p hp)
    rw [List.contains_iff_mem] at hm
    obtain ⟨q,hq,e1⟩:=List.mem_map.1 hm
    have e2:=f5 p hp q hq e1.symm
    rw [e2,← e1]
    exact hk q hq
  have calm':∀ (f:Ev) (R:List Key),EvD kp f (.rd R)→R.isEmpty=true→calm f:=by
    rintro f R ⟨f1,f2,f3,f4,f5⟩ hR
    rw [List.isEmpty_iff] at hR
    subst hR
    refine ⟨List.eq_nil_iff_forall_not_mem.2 fun p hp=>?_,f2,f3,f1⟩
    have:=f4 p hp
    cases this
  cases hgi:gs.getD i .any with
  | big =>
    cases hgj:gs.getD j .any with
    | big=>rw [hgi,hgj] at a2;cases a2
    | any=>rw [hgi,hgj] at a2;cases a2
    | rd R =>
      rw [hgi,hgj] at a2;rw [hgi] at fi;rw [hgj] at fj
      exact .inr (.inr (.inr (.inr (calmB' _ _ R fi fj a2))))
  | any =>
    cases hgj:gs.getD j .any with
    | big=>rw [hgi,hgj] at a2;cases a2
    | any=>rw [hgi,hgj] at a2;cases a2
    | rd R =>
      rw [hgi,hgj] at a2;rw [hgj] at fj
      exact .inr (.inl (calm' _ R fj a2))
  | rd R =>
    rw [hgi] at fi
    cases hgj:gs.getD j .any with
    | big =>
      rw [hgi,hgj] at a2;rw [hgj] at fj
      exact .inr (.inr (.inr (.inl (calmB' _ _ R fj fi a2))))
    | any =>
      rw [hgi,hgj] at a2
      exact .inr (.inr (.inl (calm' _ R fi a2)))
    | rd R' =>
      rw [hgj] at fj
      obtain ⟨i1,i2,i3,i4,_⟩:=fi
      obtain ⟨j1,j2,j3,j4,_⟩:=fj
      exact .inl ⟨j1,i1,fun k hk=>by simp [kw,j2] at hk,fun k hk=>by simp [kw,i2] at hk⟩
theorem vcg_regd_of2 {rid:Nat} {bs:List Nat} {los:List LOp} {Q:Exit→St→Prop} {σ:St} (kp:List (Key × LObj)) (hkp:∀ p∈kp,σ.H p.1=some p.2) (h:walkD P rid kp (fun fs=>bdOk bs los (kp.map (·.1)) fs=true) los 0 [] (Q .normal) σ):vcg P (.regd rid bs los) Q σ:=vregd_D hkp h
theorem walkD_A {rid i:Nat} {kp:List (Key × LObj)} {fin:List Fd→Prop} {fs:List Fd} {K:St→Prop} {σ:St} {d:Option Nat} {op:IOp} {os:List LOp} {pre:Prop} {v:V} (R:List (Key × LObj)) (hR:∀ p∈R,σ.H p.1=some p.2)
    (h:∀ H:Heap,(∀ p∈R,H p.1=some p.2)→lop op σ.tm H = .A pre v) (hp:pre) (hk:walkD P rid kp fin os (i+1) (fs++[.rd (R.map (·.1))]) K (σ.put d v)):walkD P rid kp fin (⟨d,op,none⟩::os) i fs K σ:=by
  refine .inl ⟨R,v,fun σ' t1 t2 K' hK=>?_,hR,hk⟩
  show vresM P σ' (siteOf rid i) d K' (lop op σ'.tm σ'.H)
  rw [op_congr (o:=⟨d,op,none⟩) (tm:=σ.tm) t1,h σ'.H t2]
  exact ⟨hp,hK⟩
def kpOk (H:Heap):List (Key × LObj)→Prop
  | []=>True
  | p::r=>H p.1=some p.2∧kpOk H r
theorem kpOk_iff {H:Heap}:∀ {kp:List (Key × LObj)},kpOk H kp→∀ p∈kp,H p.1=some p.2
  | [],_,p,hp=>by cases hp
  | q::r,h,p,hp=>by
    rcases List.mem_cons.1 hp with rfl|hp
    · exact h.1
    · exact kpOk_iff h.2 p hp
def wsA (r:LRes) (k:V→Prop):Prop:=match r with
  | .A pre v=>pre∧k v
  | _=>False
def wsL (H:Heap) (agg:Bool) (n:Nat) (k:List Key→V→Prop):V→Prop
  | .mp key g o=>wsA (lload agg n H (.mp key g o)) (k [key])
  | .ip cs o=>wsA (lload agg n H (.ip cs o)) (k [])
  | _=>False
def wsB (H:Heap) (k:V→Prop):V→Prop
  | .sl n cs=>wsA (lb2s H (.sl n cs)) k
  | _=>False
def wsW (s:Nat) (kp:List (Key × LObj)) (σ:St) (d:Option Nat) (k:St→Prop):LRes→Prop
  | .C pre o mk=>pre∧kpOk (hupd σ.H (s,σ.cnt s) o) kp∧k (St.put ⟨σ.tm,hupd σ.H (s,σ.cnt s) o,cupd σ.cnt s⟩ d (mk (s,σ.cnt s)))
  | .D pre v H1=>pre∧kpOk H1 kp∧k (St.put ⟨σ.tm,H1,σ.cnt⟩ d v)
  | _=>False
def wsF (σ:St) (d:Option Nat) (k:St→Prop):LRes→Prop
  | .D pre v H1=>pre∧k (St.put ⟨σ.tm,H1,σ.cnt⟩ d v)
  | _=>False
theorem wsA_iff {r:LRes} {k:V→Prop} (h:wsA r k):∃ pre v,r = .A pre v∧pre∧k v:=by
  cases r with
  | A pre v=>exact ⟨pre,v,rfl,h.1,h.2⟩
  | _=>exact h.elim
theorem evB_of_C {s:Nat} {d:Option Nat} {op:IOp} {σ:St} {pre:Prop} {o:LObj} {mk:Key→V} (h:lop op σ.tm σ.H = .C pre o mk) (hp:pre):evB P s ⟨d,op,none⟩ σ.tm σ.H σ.cnt (hupd σ.H (s,σ.cnt s) o) (cupd σ.cnt s) (mk (s,σ.cnt s)):=by
  intro tm' t1 K' hK
  show vresM P ⟨tm',σ.H,σ.cnt⟩ s d K' (lop op tm' σ.H)
  rw [op_congr (o:=⟨d,op,none⟩) (tm:=σ.tm) t1,h]
  exact ⟨hp,hK⟩
theorem evB_of_D {s:Nat} {d:Option Nat} {op:IOp} {σ:St} {pre:Prop} {v:V} {H1:Heap} (h:lop op σ.tm σ.H = .D pre v H1) (hp:pre):evB P s ⟨d,op,none⟩ σ.tm σ.H σ.cnt H1 σ.cnt v:=by
  intro tm' t1 K' hK
  show vresM P ⟨tm',σ.H,σ.cnt⟩ s d K' (lop op tm' σ.H)
  rw [op_congr (o:=⟨d,op,none⟩) (tm:=σ.tm) t1,h]
  exact ⟨hp,hK⟩
theorem lload_mp {agg:Bool} {n:Nat} {H:Heap} {key:Key} {g o:Nat} {pre:Prop} {v:V} (h:lload agg n H (.mp key g o) = .A pre v):∃ ob,H key=some ob∧∀ H':Heap,H' key=some ob→lload agg n H' (.mp key g o) = .A pre v:=by
  cases hk:H key with
  | none=>simp only [lload,hk] at h;cases h
  | some ob =>
    refine ⟨ob,rfl,fun H' h'=>?_⟩
    simp only [lload,hk] at h
    simp only [lload,h']
    exact h
theorem wsA_A {pre:Prop} {v:V} {k:V→Prop}:wsA (.A pre v) k=(pre∧k v):=rfl
theorem wsL_mp {H:Heap} {agg:Bool} {n:Nat} {k:List Key→V→Prop} {key:Key} {g o:Nat}:wsL H agg n k (.mp key g o)=wsA (lload agg n H (.mp key g o)) (k [key]):=rfl
theorem wsL_ip {H:Heap} {agg:Bool} {n:Nat} {k:List Key→V→Prop} {cs:List V} {o:Nat}:wsL H agg n k (.ip cs o)=wsA (lload agg n H (.ip cs o)) (k []):=rfl
theorem wsW_C {s:Nat} {kp:List (Key × LObj)} {σ:St} {d:Option Nat} {k:St→Prop} {pre:Prop} {o:LObj} {mk:Key→V}:wsW s kp σ d k (.C pre o mk)=(pre∧kpOk (hupd σ.H (s,σ.cnt s) o) kp∧k (St.put ⟨σ.tm,hupd σ.H (s,σ.cnt s) o,cupd σ.cnt s⟩ d (mk (s,σ.cnt s)))):=rfl
theorem wsW_D {s:Nat} {kp:List (Key × LObj)} {σ:St} {d:Option Nat} {k:St→Prop} {pre:Prop} {v:V} {H1:Heap}:wsW s kp σ d k (.D pre v H1)=(pre∧kpOk H1 kp∧k (St.put ⟨σ.tm,H1,σ.cnt⟩ d v)):=rfl
theorem wsF_D {σ:St} {d:Option Nat} {k:St→Prop} {pre:Prop} {v:V} {H1:Heap}:wsF σ d k (.D pre v H1)=(pre∧k (St.put ⟨σ.tm,H1,σ.cnt⟩ d v)):=rfl
theorem kpOk_nil {H:Heap}:kpOk H []=True:=rfl
theorem kpOk_cons {H:Heap} {p:Key × LObj} {r:List (Key × LObj)}:kpOk H (p::r)=(H p.1=some p.2∧kpOk H r):=rfl
end
section
variable {P:Program} {rid i:Nat} {kp:List (Key × LObj)} {fin:List Fd→Prop} {fs:List Fd} {K:St→Prop} {σ:St} {d:Option Nat} {os:List LOp}
end
end Go.Lg

namespace Go.Lg
open Go Go.RowKit
section
variable {P:Program}
theorem evP_g {s:Nat} {d:Option Nat} {op:IOp} {g:Option (Nat × Bool)} {tm:Nat→V} {R:List (Key × LObj)} {v:V} (hg:gd tm g=some true) (h:evP P s ⟨d,op,none⟩ tm R v):evP P s ⟨d,op,g⟩ tm R v:=by
  intro σ t1 t2 K hK
  have h1:=h σ (fun t ht=>t1 t (List.mem_append.2 (.inr ((List.mem_append.1 ht).elim (fun h=>(by cases h)) id)))) t2 K hK
  show (match gd σ.tm g with|some true=>_|some false=>_|none=>_:Prop)
  rw [gd_congr (o:=⟨d,op,g⟩) t1,hg]
  exact h1
theorem evB_g {s:Nat} {d:Option Nat} {op:IOp} {g:Option (Nat × Bool)} {tm:Nat→V} {H:Heap} {c:Nat→Nat} {H1:Heap} {c1:Nat→Nat} {v:V} (hg:gd tm g=some true) (h:evB P s ⟨d,op,none⟩ tm H c H1 c1 v):evB P s ⟨d,op,g⟩ tm H c H1 c1 v:=by
  intro tm' t1 K hK
  have h1:=h tm' (fun t ht=>t1 t (List.mem_append.2 (.inr ((List.mem_append.1 ht).elim (fun h=>(by cases h)) id)))) K hK
  show (match gd tm' g with|some true=>_|some false=>_|none=>_:Prop)
  rw [gd_congr (o:=⟨d,op,g⟩) t1,hg]
  exact h1
theorem evP_skip {s:Nat} {d:Option Nat} {op:IOp} {g:Option (Nat × Bool)} {tm:Nat→V} (hg:gd tm g=some false):evP P s ⟨d,op,g⟩ tm [] (.tup []):=by
  intro σ t1 t2 K hK
  show (match gd σ.tm g with|some true=>_|some false=>_|none=>_:Prop)
  rw [gd_congr (o:=⟨d,op,g⟩) t1,hg]
  exact hK
theorem walkD_g {rid i:Nat} {kp:List (Key × LObj)} {fin:List Fd→Prop} {fs:List Fd} {K:St→Prop} {σ:St} {d:Option Nat} {op:IOp} {g:Option (Nat × Bool)} {os:List LOp} (hg:gd σ.tm g=some true) (h:walkD P rid kp fin (⟨d,op,none⟩::os) i fs K σ):walkD P rid kp fin (⟨d,op,g⟩::os) i fs K σ:=by
  rcases h with ⟨R,v,h1,h2,h3⟩|⟨H1,c1,v,h1,h2,h3⟩|⟨h0,H1,c1,v,h1,h2,h3⟩
  · exact .inl ⟨R,v,evP_g hg h1,h2,h3⟩
  · exact .inr (.inl ⟨H1,c1,v,evB_g hg h1,h2,h3⟩)
  · exact .inr (.inr ⟨h0,H1,c1,v,evB_g hg h1,h2,h3⟩)
theorem walkD_skip {rid i:Nat} {kp:List (Key × LObj)} {fin:List Fd→Prop} {fs:List Fd} {K:St→Prop} {σ:St} {d:Option Nat} {op:IOp} {g:Option (Nat × Bool)} {os:List LOp} (hg:gd σ.tm g=some false) (h:walkD P rid kp fin os (i+1) (fs++[.rd []]) K (σ.put d (.tup []))):walkD P rid kp fin (⟨d,op,g⟩::os) i fs K σ :=
  .inl ⟨[],.tup [],evP_skip hg,fun p h=>(by cases h),h⟩
def freeG:IOp→Bool
  | .mov _ | .nilchk _ | .fad .. | .bin .. | .un .. | .slV .. | .bsl .. | .ext .. | .len .. | .eqa .. | .eqb .. | .pick ..=>true
  | _=>false
theorem freeG_H {op:IOp} (h:freeG op=true) (tm:Nat→V) (H H':Heap):lop op tm H=lop op tm H':=by
  cases op<;>first|rfl|cases h
theorem gd_none0 {tm:Nat→V}:gd tm none=some true:=rfl
def wgd (g:Option Bool) (a b:Prop):Prop:=match g with
  | some true=>a
  | some false=>b
  | none=>False
def wsM (H:Heap) (kt:KT) (ok:Bool) (z i:V) (k:List Key→V→Prop):V→Prop
  | .mm key=>wsA (lmlk H kt ok z (.mm key) i) (k [key])
  | .im es=>wsA (lmlk H kt ok z (.im es) i) (k [])
  | _=>False
theorem lmlk_mm {H:Heap} {kt:KT} {ok:Bool} {z i:V} {key:Key} {pre:Prop} {v:V} (h:lmlk H kt ok z (.mm key) i = .A pre v):∃ ob,H key=some ob∧∀ H':Heap,H' key=some ob→lmlk H' kt ok z (.mm key) i = .A pre v:=by
  cases hk:H key with
  | none=>simp only [lmlk,hk] at h;cases h
  | some ob =>
    refine ⟨ob,rfl,fun H' h'=>?_⟩
    simp only [lmlk,hk] at h
    simp only [lmlk,h']
    exact h
def stepG (s:Nat) (kp:List (Key × LObj)) (σ:St) (d:Option Nat) (kk:Fd→St→Prop) (lst:St→Prop) (cl:FuncId→List Rd→Prop):IOp→Prop
  | .load agg n a=>wsL σ.H agg n (fun ks v=>kk (.rd ks) (σ.put d v)) (a.get σ.tm)
  | .b2s x=>wsB σ.H (fun v=>kk (.rd []) (σ.put d v)) (x.get σ.tm)
  | .app e b x y=>wsW s kp σ d (kk .big) (lop (.app e b x y) σ.tm σ.H)
  | .appE e b x y=>wsW s kp σ d (kk .big) (lop (.appE e b x y) σ.tm σ.H)
  | .store n a x=>wsF σ d lst (lop (.store n a x) σ.tm σ.H)
  | .call f a=>cl f a
  | .mlk kt ok z x i=>wsM σ.H kt ok z (i.get σ.tm) (fun ks v=>kk (.rd ks) (σ.put d v)) (x.get σ.tm)
  | .mset kt x i v=>wsF σ d lst (lop (.mset kt x i v) σ.tm σ.H)
  | op=>freeG op=true∧wsA (lop op σ.tm σ.H) (fun v=>kk (.rd []) (σ.put d v))
def walkG (P:Program) (rid:Nat) (kp:List (Key × LObj)) (fin:List Fd→Prop):List LOp→Nat→List Fd→(St→Prop)→St→Prop
  | [],_,fs,K,σ=>fin fs∧K σ
  | o::os,i,fs,K,σ=>wgd (gd σ.tm o.guard) (stepG (siteOf rid i) kp σ o.dst (fun f σ'=>walkG P rid kp fin os (i+1) (fs++[f]) K σ') (fun σ'=>os=[]∧fin (fs++[.any])∧K σ')
      (fun f a=>walkD P rid kp fin (⟨o.dst,.call f a,none⟩::os) i fs K σ) o.op) (walkG P rid kp fin os (i+1) (fs++[.rd []]) K (σ.put o.dst (.tup [])))
theorem walkG_D {rid:Nat} {kp:List (Key × LObj)} {fin:List Fd→Prop} {K:St→Prop}:∀ (os:List LOp) (i1:Nat) (fs:List Fd) (σ:St),walkG P rid kp fin os i1 fs K σ→walkD P rid kp fin os i1 fs K σ
  | [],_,_,_,h=>h
  | ⟨d,op,g⟩::os,i1,fs,σ,h=>by
    have ih:=fun i1 fs σ=>walkG_D (rid:=rid) (kp:=kp) (fin:=fin) (K:=K) os i1 fs σ
    have h:wgd (gd σ.tm g) (stepG (siteOf rid i1) kp σ d (fun f σ'=>walkG P rid kp fin os (i1+1) (fs++[f]) K σ') (fun σ'=>os=[]∧fin (fs++[.any])∧K σ')
      (fun f a=>walkD P rid kp fin (⟨d,.call f a,none⟩::os) i1 fs K σ) op) (walkG P rid kp fin os (i1+1) (fs++[.rd []]) K (σ.put d (.tup []))):=h
    cases hg:gd σ.tm g with
    | none=>rw [hg] at h;exact h.elim
    | some b =>
    cases b with
    | false=>rw [hg] at h;exact walkD_skip hg (ih _ _ _ h)
    | true =>
    rw [hg] at h
    refine walkD_g hg ?_
    have free:freeG op=true∧wsA (lop op σ.tm σ.H) (fun v=>walkG P rid kp fin os (i1+1) (fs++[.rd []]) K (σ.put d v))→walkD P rid kp fin (⟨d,op,none⟩::os) i1 fs K σ:=by
      rintro ⟨h1,h2⟩
      obtain ⟨pre,v,e,hp,hk⟩:=wsA_iff h2
      exact walkD_A [] (fun _ h=>by cases h) (fun H _=>by rw [freeG_H h1 σ.tm H σ.H];exact e) hp (ih _ _ _ hk)
    have wr:wsW (siteOf rid i1) kp σ d (fun σ'=>walkG P rid kp fin os (i1+1) (fs++[.big]) K σ') (lop op σ.tm σ.H)→walkD P rid kp fin (⟨d,op,none⟩::os) i1 fs K σ:=by
      intro h
      cases e:lop op σ.tm σ.H with
      | C pre o mk =>
        rw [e] at h
        obtain ⟨h1,h2,h3⟩:=h
        exact .inr (.inl ⟨_,_,_,evB_of_C e h1,kpOk_iff h2,ih _ _ _ h3⟩)
      | D pre v H1 =>
        rw [e] at h
        obtain ⟨h1,h2,h3⟩:=h
        exact .inr (.inl ⟨_,_,_,evB_of_D e h1,kpOk_iff h2,ih _ _ _ h3⟩)
      | A pre v=>rw [e] at h;exact h.elim
      | call pre f a b=>rw [e] at h;exact h.elim
      | bad=>rw [e] at h;exact h.elim
    cases op with
    | load agg n a =>
      have h:wsL σ.H agg n (fun ks v=>walkG P rid kp fin os (i1+1) (fs++[.rd ks]) K (σ.put d v)) (a.get σ.tm):=h
      generalize hx:a.get σ.tm=x at h
      cases x with
      | mp key g o =>
        obtain ⟨pre,v,e,hp,hk⟩:=wsA_iff h
        obtain ⟨ob,h1,h2⟩:=lload_mp e
        refine walkD_A [(key,ob)] (fun q hq=>by rw [List.mem_singleton.1 hq];exact h1) (fun H hH=>?_) hp (ih _ _ _ hk)
        show lload agg n H (a.get σ.tm)=_
        rw [hx]
        exact h2 H (hH _ (List.mem_singleton.2 rfl))
      | ip cs o =>
        obtain ⟨pre,v,e,hp,hk⟩:=wsA_iff h
        refine walkD_A [] (fun _ h=>by cases h) (fun H _=>?_) hp (ih _ _ _ hk)
        show lload agg n H (a.get σ.tm)=_
        rw [hx];exact e
      | _=>exact h.elim
    | b2s x =>
      have h:wsB σ.H (fun v=>walkG P rid kp fin os (i1+1) (fs++[.rd []]) K (σ.put d v)) (x.get σ.tm):=h
      generalize hx:x.get σ.tm=y at h
      cases y with
      | sl n cs =>
        obtain ⟨pre,v,e,hp,hk⟩:=wsA_iff h
        refine walkD_A [] (fun _ h=>by cases h) (fun H _=>?_) hp (ih _ _ _ hk)
        show lb2s H (x.get σ.tm)=_
        rw [hx];exact e
      | _=>exact h.elim
    | app=>exact wr h
    | appE=>exact wr h
    | store n a x =>
      have h:wsF σ d (fun σ'=>os=[]∧fin (fs++[.any])∧K σ') (lop (.store n a x) σ.tm σ.H):=h
      cases e:lop (.store n a x) σ.tm σ.H with
      | D pre v H1 =>
        rw [e] at h
        obtain ⟨h1,h0,h2,h3⟩:=h
        subst h0
        exact .inr (.inr ⟨rfl,_,_,_,evB_of_D e h1,h2,h3⟩)
      | A pre v=>rw [e] at h;exact h.elim
      | C pre o mk=>rw [e] at h;exact h.elim
      | call pre f a b=>rw [e] at h;exact h.elim
      | bad=>rw [e] at h;exact h.elim
    | call f a=>exact h
    | mlk kt ok z a i =>
      have h:wsM σ.H kt ok z (i.get σ.tm) (fun ks v=>walkG P rid kp fin os (i1+1) (fs++[.rd ks]) K (σ.put d v)) (a.get σ.tm):=h
      generalize hx:a.get σ.tm=x at h
      cases x with
      | mm key =>
        obtain ⟨pre,v,e,hp,hk⟩:=wsA_iff h
        obtain ⟨ob,h1,h2⟩:=lmlk_mm e
        refine walkD_A [(key,ob)] (fun q hq=>by rw [List.mem_singleton.1 hq];exact h1) (fun H hH=>?_) hp (ih _ _ _ hk)
        show lmlk H kt ok z (a.get σ.tm) (i.get σ.tm)=_
        rw [hx]
        exact h2 H (hH _ (List.mem_singleton.2 rfl))
      | im es =>
        have h:wsA (lmlk σ.H kt ok z (.im es) (i.get σ.tm)) (fun v=>walkG P rid kp fin os (i1+1) (fs++[.rd []]) K (σ.put d v)):=h
        obtain ⟨pre,v,e,hp,hk⟩:=wsA_iff h
        refine walkD_A [] (fun _ h=>by cases h) (fun H _=>?_) hp (ih _ _ _ hk)
        show lmlk H kt ok z (a.get σ.tm) (i.get σ.tm)=_
        rw [hx];exact e
      | _=>exact h.elim
    | mset kt a i x =>
      have h:wsF σ d (fun σ'=>os=[]∧fin (fs++[.any])∧K σ') (lop (.mset kt a i x) σ.tm σ.H):=h
      cases e:lop (.mset kt a i x) σ.tm σ.H with
      | D pre v H1 =>
        rw [e] at h
        obtain ⟨h1,h0,h2,h3⟩:=h
        subst h0
        exact .inr (.inr ⟨rfl,_,_,_,evB_of_D e h1,h2,h3⟩)
      | A pre v=>rw [e] at h;exact h.elim
      | C pre o mk=>rw [e] at h;exact h.elim
      | call pre f a b=>rw [e] at h;exact h.elim
      | bad=>rw [e] at h;exact h.elim
    | _=>exact free h
theorem vcg_regd_G {rid:Nat} {bs:List Nat} {los:List LOp} {Q:Exit→St→Prop} {σ:St} (kp:List (Key × LObj)) (hkp:kpOk σ.H kp) (h:walkG P rid kp (fun fs=>bdOk bs los (kp.map (·.1)) fs=true) los 0 [] (Q .normal) σ):vcg P (.regd rid bs los) Q σ :=
  vcg_regd_of2 kp (kpOk_iff hkp) (walkG_D _ _ _ _ h)
theorem wgd_t {a b:Prop}:wgd (some true) a b=a:=rfl
theorem walkG_nil {rid i:Nat} {kp:List (Key × LObj)} {fin:List Fd→Prop} {fs:List Fd} {K:St→Prop} {σ:St}:walkG P rid kp fin [] i fs K σ=(fin fs∧K σ):=rfl
theorem walkG_cons {rid i:Nat} {kp:List (Key × LObj)} {fin:List Fd→Prop} {fs:List Fd} {K:St→Prop} {σ:St} {d:Option Nat} {op:IOp} {g:Option (Nat × Bool)} {os:List LOp}:walkG P rid kp fin (⟨d,op,g⟩::os) i fs K σ =
    wgd (gd σ.tm g) (stepG (siteOf rid i) kp σ d (fun f σ'=>walkG P rid kp fin os (i+1) (fs++[f]) K σ') (fun σ'=>os=[]∧fin (fs++[.any])∧K σ') (fun f a=>walkD P rid kp fin (⟨d,.call f a,none⟩::os) i fs K σ) op) (walkG P rid kp fin os (i+1) (fs++[.rd []]) K (σ.put d (.tup []))):=rfl
theorem walkG_one {rid i:Nat} {kp:List (Key × LObj)} {fin:List Fd→Prop} {fs:List Fd} {K:St→Prop} {σ:St} {d:Option Nat} {op:IOp} {g:Option (Nat × Bool)}:walkG P rid kp fin [⟨d,op,g⟩] i fs K σ =
    wgd (gd σ.tm g) (stepG (siteOf rid i) kp σ d (fun f σ'=>fin (fs++[f])∧K σ') (fun σ'=>fin (fs++[.any])∧K σ') (fun f a=>walkD P rid kp fin [⟨d,.call f a,none⟩] i fs K σ) op) (fin (fs++[.rd []])∧K (σ.put d (.tup []))):=by
  rw [walkG_cons];simp only [true_and];rfl
end
theorem walkG_K {P:Program} {rid i:Nat} {kp:List (Key × LObj)} {fin:List Fd→Prop} {fs:List Fd} {K:St→Prop} {σ:St} {os:List LOp} (h:∀ K':St→Prop,K' = K→walkG P rid kp fin os i fs K' σ):walkG P rid kp fin os i fs K σ:=h K rfl
section
variable {s:Nat} {kp:List (Key × LObj)} {σ:St} {d:Option Nat} {kk:Fd→St→Prop} {lst:St→Prop} {cl:FuncId→List Rd→Prop}
theorem wsM_mm {H:Heap} {kt:KT} {ok:Bool} {z i:V} {k:List Key→V→Prop} {key:Key}:wsM H kt ok z i k (.mm key)=wsA (lmlk H kt ok z (.mm key) i) (k [key]):=rfl
theorem wsM_im {H:Heap} {kt:KT} {ok:Bool} {z i:V} {k:List Key→V→Prop} {es:List (V × V)}:wsM H kt ok z i k (.im es)=wsA (lmlk H kt ok z (.im es) i) (k []):=rfl
section
variable {P:Program} {rid i:Nat} {fin:List Fd→Prop} {fs:List Fd} {K:St→Prop} {os:List LOp}
theorem walkG_mov {x:Rd}:walkG P rid kp fin (⟨d,.mov x,none⟩::os) i fs K σ=walkG P rid kp fin os (i+1) (fs++[.rd []]) K (σ.put d (x.get σ.tm)):=propext ⟨fun h=>h.2.2,fun h=>⟨rfl,trivial,h⟩⟩
theorem walkG_load {agg:Bool} {n:Nat} {a:Rd}:walkG P rid kp fin (⟨d,.load agg n a,none⟩::os) i fs K σ=wsL σ.H agg n (fun ks v=>walkG P rid kp fin os (i+1) (fs++[.rd ks]) K (σ.put d v)) (a.get σ.tm):=rfl
theorem walkG_fad {o:Nat} {x:Rd}:walkG P rid kp fin (⟨d,.fad o x,none⟩::os) i fs K σ=wsA (lfad o (x.get σ.tm)) (fun v=>walkG P rid kp fin os (i+1) (fs++[.rd []]) K (σ.put d v)):=propext ⟨fun h=>h.2,fun h=>⟨rfl,h⟩⟩
theorem walkG_un {o:UnOp} {x:Rd}:walkG P rid kp fin (⟨d,.un o x,none⟩::os) i fs K σ=wsA (lop (.un o x) σ.tm σ.H) (fun v=>walkG P rid kp fin os (i+1) (fs++[.rd []]) K (σ.put d v)):=propext ⟨fun h=>h.2,fun h=>⟨rfl,h⟩⟩
theorem walkG_mlk {kt:KT} {ok:Bool} {z:V} {x j:Rd}:walkG P rid kp fin (⟨d,.mlk kt ok z x j,none⟩::os) i fs K σ=wsM σ.H kt ok z (j.get σ.tm) (fun ks v=>walkG P rid kp fin os (i+1) (fs++[.rd ks]) K (σ.put d v)) (x.get σ.tm):=rfl
theorem walkG_app {e b:Nat} {x y:Rd}:walkG P rid kp fin (⟨d,.app e b x y,none⟩::os) i fs K σ=wsW (siteOf rid i) kp σ d (fun σ'=>walkG P rid kp fin os (i+1) (fs++[.big]) K σ') (lop (.app e b x y) σ.tm σ.H):=rfl
theorem walkG_bsl {n:Nat} {zs:List V} {ps:List (Nat × Nat × Rd)}:walkG P rid kp fin (⟨d,.bsl n zs ps,none⟩::os) i fs K σ=wsA (lop (.bsl n zs ps) σ.tm σ.H) (fun v=>walkG P rid kp fin os (i+1) (fs++[.rd []]) K (σ.put d v)):=propext ⟨fun h=>h.2,fun h=>⟨rfl,h⟩⟩
theorem walkG_mset {kt:KT} {x j v:Rd}:walkG P rid kp fin [⟨d,.mset kt x j v,none⟩] i fs K σ=wsF σ d (fun σ'=>fin (fs++[.any])∧K σ') (lop (.mset kt x j v) σ.tm σ.H):=by
  rw [walkG_one,gd_none0,wgd_t];rfl
theorem walkG_call {f:FuncId} {a:List Rd}:walkG P rid kp fin (⟨d,.call f a,none⟩::os) i fs K σ=walkD P rid kp fin (⟨d,.call f a,none⟩::os) i fs K σ:=rfl
end
end
end Go.Lg

namespace Go.Lg
open Go Go.RowKit
theorem st_eq (a b:ByteArray):(a.toList == b.toList)=decide (a=b):=by
  rw [ByteArray.toList_eq,ByteArray.toList_eq,Bool.eq_iff_iff]
  simp only [beq_iff_eq,decide_eq_true_eq]
  constructor
  · intro h
    cases a;cases b
    simp only at h
    congr 1
    exact Array.toList_inj.1 h
  · rintro rfl;rfl
def memB (x:ByteArray) (G:List ByteArray):Bool:=G.any fun y=>decide (y=x)
theorem memB_t {x:ByteArray} {G:List ByteArray} (h:x∈G):memB x G=true:=List.any_eq_true.2 ⟨x,h,decide_eq_true rfl⟩
theorem memB_f {x:ByteArray} {G:List ByteArray} (h:x∉G):memB x G=false:=by
  rw [Bool.eq_false_iff]
  intro h1
  obtain ⟨y,hy,e⟩:=List.any_eq_true.1 h1
  exact h (of_decide_eq_true e▸hy)
theorem memB_iff {x:ByteArray} {G:List ByteArray}:memB x G=true↔x∈G:=by
  by_cases h:x∈G
  · rw [memB_t h];simp [h]
  · rw [memB_f h];simp [h]
def cLif (p:Lif):List V:=[.str p.1,encL cS p.2]
theorem cLif_len (p:Lif):(cLif p).length=2:=rfl
theorem lf_len (l:List Lif):(l.flatMap cLif).length=l.length*2:=flat_len cLif_len l
theorem lf_imv (d:Nat) (l:List Lif):(l.flatMap cLif).all (imV (d+1))=true:=by
  induction l with
  | nil=>rfl
  | cons x r ih=>rw [List.flatMap_cons,List.all_append,ih];rfl
theorem lf_snap (H:Heap) (d:Nat) (l:List Lif):(l.flatMap cLif).map (snap H (d+1))=l.flatMap cLif:=by
  induction l with
  | nil=>rfl
  | cons x r ih=>rw [List.flatMap_cons,List.map_append,ih];rfl
theorem lf_A {l:List Lif} {i:Nat} (h:i<l.length):ldV true 2 (l.flatMap cLif) (i*2)=some (.agg (cLif l[i])):=by
  rw [ld_flat0 cLif_len h (by decide) (by decide)]
  rfl
theorem st_ld {l:List ByteArray} {i:Nat} (h:i<l.length):ldV false 1 (l.flatMap cS) i=some (.str l[i]):=by
  have:=flat_cell cS_len l i 0 h (by decide)
  simp only [Nat.add_zero,Nat.mul_one,cS,List.getElem?_cons_zero] at this
  simp only [ldV,Bool.false_eq_true,if_false];exact this
def simV:V→Bool
  | .int .. | .bool _ | .str _ | .sl ..=>true
  | _=>false
theorem simV_imv {v:V} (d:Nat) (h:simV v=true):imV (d+1) v=true:=by cases v<;>first|rfl|cases h
theorem simV_snap {v:V} (H:Heap) (d:Nat) (h:simV v=true):snap H (d+1) v=v:=by cases v<;>first|rfl|cases h
theorem simV_sok {v:V} (H:Heap) (d:Nat) (h:simV v=true):sok H (d+1) v=true:=by cases v<;>first|rfl|cases h
theorem simV_one {v:V} (h:simV v=true):V.one v=true:=by cases v<;>first|rfl|cases h
theorem simA_imv {cs:List V} (d:Nat) (h:cs.all simV=true):cs.all (imV (d+1))=true:=List.all_eq_true.2 fun x hx=>simV_imv d (List.all_eq_true.1 h x hx)
theorem simA_sok {cs:List V} (H:Heap) (d:Nat) (h:cs.all simV=true):cs.all (sok H (d+1))=true:=List.all_eq_true.2 fun x hx=>simV_sok H d (List.all_eq_true.1 h x hx)
theorem simA_one {cs:List V} (h:cs.all simV=true):cs.all V.one=true:=List.all_eq_true.2 fun x hx=>simV_one (List.all_eq_true.1 h x hx)
theorem simA_snap {cs:List V} (H:Heap) (d:Nat) (h:cs.all simV=true):cs.map (snap H (d+1))=cs:=by
  induction cs with
  | nil=>rfl
  | cons x r ih =>
    simp only [List.all_cons,Bool.and_eq_true] at h
    rw [List.map_cons,simV_snap H d h.1,ih h.2]
structure FnC where
  a:V
  b:V
  lives:List Lif
  post:List V
  ha:simV a=true
  hb:simV b=true
  hl:post.length=7
  hp:post.all simV=true
def FnC.cells (F:FnC):List V:=F.a::F.b :: .sl F.lives.length (F.lives.flatMap cLif)::F.post
theorem FnC.len (F:FnC):F.cells.length=10:=by simp [FnC.cells,F.hl]
theorem FnC.sim (F:FnC):F.cells.all simV=true:=by
  simp only [FnC.cells,List.all_cons,F.ha,F.hb,F.hp,Bool.and_self,Bool.true_and];rfl
theorem FnC.imvc (F:FnC) (d:Nat):F.cells.all (imV (d+1))=true:=simA_imv d F.sim
theorem FnC.sokc (F:FnC) (H:Heap) (d:Nat):F.cells.all (sok H (d+1))=true:=simA_sok H d F.sim
theorem FnC.snapc (F:FnC) (H:Heap) (d:Nat):F.cells.map (snap H (d+1))=F.cells:=simA_snap H d F.sim
theorem FnC.onec (F:FnC):F.cells.all V.one=true:=simA_one F.sim
theorem FnC.ld2 (F:FnC):ldV false 1 F.cells 2=some (.sl F.lives.length (F.lives.flatMap cLif)):=rfl
theorem FnC.ldA (F:FnC):ldV true 10 F.cells 0=some (.agg F.cells):=by
  simp only [ldV,if_true,List.drop_zero,F.len,Nat.zero_add,Nat.le_refl]
  rw [List.take_of_length_le (by rw [F.len];exact Nat.le_refl _)]
end Go.Lg
namespace Go.Proofs.YtlnphjjhfgghkaaGreatDoor
open Go Go.Lg Go.RowKit
end Go.Proofs.YtlnphjjhfgghkaaGreatDoor
