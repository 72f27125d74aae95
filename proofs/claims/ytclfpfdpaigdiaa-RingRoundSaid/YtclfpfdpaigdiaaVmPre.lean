/- The words with which functions are run, for simp. No conditions. -/
import Derived.Test.YtclfpfdpaigdiaaVmF
import Derived.IntWalk
set_option linter.unusedVariables false
set_option linter.unusedSimpArgs false
namespace Go.Proofs.YtclfpfdpaigdiaaW.Rg
open Go.Proofs.YtclfpfdpaigdiaaW.Vm
open Go Go.Proofs
abbrev I (n : Int) : D := .int .i64 n
attribute [simp] Wseq Wregion Wcond Wblock W_skip W_ret W_exit normK_eq seqK_normal seqK_ret seqK_exit condK_true condK_false blockK_exit blockK_normal blockK_ret
  loopK_normal loopK_exit loopK_ret opsD_cons opsD_nil stepD_eq stepK_true stepK_false want_none want_some boolK_tup boolK_bool putK_mk put_some put_none upd_eq upd_ne
  op_move op_assign op_pick pickK_bool op_alloc op_box boxK_eq op_load op_store op_bin op_not op_makeSlice op_slice op_fieldAddr op_field op_indexAddr op_index op_extract extK_tup op_call op_builtin op_build op_convert
  convD_int convD_flt convD_str convD_sl litK_eq cleanK_eq fill_nil fill_cons
  evs_cons evs_nil evps_cons evps_nil ev_tmp ev_int ev_bool ev_str ev_nils ev_agg scal_bool scal_int bin_geq bin_leq bin_gtr bin_lss bin_eql bin_neq bin_add bin_sub bin_mul un_not
  fits_agg fits_one ldD_ptr ldD_fptr ldEls_eq ldEl_part ldEl_all stD_ptr stEls_eq stEl_part stEl_all stEl_one call_pure call_shared callK_eq retK_some chkK_eq finK_mk endK_normal endK_ret cfg_shared cfg_lit newOb bld_nil drawOps_cons drawOps_nil drawS_eq drawT_true drawT_false drawE_mk fnc_nomark beq_int beq_bool beqs_nil beqs_cons beq_agg beq_snil beq_sl beqo_some
  evo_none evo_some ofVals_nil ofVals_cons ofVal1_int ofVal1_bool ofVal1_snil ofVal1_str ofVal1_flt ofVal1_cpx ofVal1_nil ofVal1_nilf ofVal1_nili ownK_clean exp_clean marks_clean
end Go.Proofs.YtclfpfdpaigdiaaW.Rg
