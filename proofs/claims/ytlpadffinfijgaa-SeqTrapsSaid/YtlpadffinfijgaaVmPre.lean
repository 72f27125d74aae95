/- The words with which functions are run, for simp. No conditions. -/
import Derived.Test.YtlpadffinfijgaaVmF
import Derived.IntWalk
set_option linter.unusedVariables false
set_option linter.unusedSimpArgs false
namespace Go.Proofs.YtlpadffinfijgaaW.Rg
open Go.Proofs.YtlpadffinfijgaaW.Vm
open Go Go.Proofs
abbrev I (n : Int) : D := .int .i64 n
attribute [simp] Wseq Wregion Wcond Wblock W_skip W_ret W_exit normK_eq seqK_normal seqK_ret seqK_exit condK_true condK_false blockK_exit blockK_normal blockK_ret
  loopK_normal loopK_exit loopK_ret opsD_cons opsD_nil stepD_eq stepK_true stepK_false want_none want_some boolK_tup boolK_bool putK_mk put_some put_none upd_eq upd_ne
  op_move op_assign op_pick pickK_bool op_alloc op_box boxK_eq op_load op_store op_bin op_not op_makeSlice op_slice op_fieldAddr op_field op_indexAddr op_index op_extract extK_tup op_call op_builtin op_build op_convert
  convD_int convD_flt convD_str convD_sl litK_eq cleanK_eq fill_nil fill_cons
  evs_cons evs_nil evps_cons evps_nil ev_tmp ev_int ev_bool ev_str ev_nils ev_agg scal_bool scal_int bin_geq bin_leq bin_gtr bin_lss bin_eql bin_neq bin_add bin_sub bin_mul un_not
  fits_agg fits_one ldD_ptr ldD_fptr ldEls_eq ldEl_part ldEl_all stD_ptr stEls_eq stEl_part stEl_all stEl_one call_pure call_shared callK_eq retK_some chkK_eq finK_mk endK_normal endK_ret cfg_lit newOb bld_nil drawOps_cons drawOps_nil drawS_eq drawT_true drawT_false drawE_mk fnc_nomark beq_int beq_bool beqs_nil beqs_cons beq_agg beq_snil beq_sl beqo_some
  op_callv cloK_clo ev_func evo_none evo_some ofVals_nil ofVals_cons ofVal1_int ofVal1_bool ofVal1_snil ofVal1_str ofVal1_flt ofVal1_cpx ofVal1_nil ofVal1_nilf ofVal1_nili ownK_clean exp_clean marks_clean
/-! heaps that are not known -/
theorem get_app {h l : List Ob} {n : Nat} (hn : h.length = n) (k : Nat) : (h ++ l)[n + k]? = l[k]? := by
  subst hn; rw [List.getElem?_append_right (by omega)]; congr 1; omega
theorem get_app0 {h l : List Ob} {n : Nat} (hn : h.length = n) : (h ++ l)[n]? = l[0]? := get_app hn 0
theorem set_app {h l : List Ob} {n : Nat} (hn : h.length = n) (k : Nat) (o : Ob) : (h ++ l).set (n + k) o = h ++ l.set k o := by
  subst hn; rw [List.set_append_right _ _ (by omega)]; congr 2; omega
theorem set_app0 {h l : List Ob} {n : Nat} (hn : h.length = n) (o : Ob) : (h ++ l).set n o = h ++ l.set 0 o := set_app hn 0 o
theorem get_lt {h l : List Ob} {k : Nat} (hk : k < h.length) : (h ++ l)[k]? = h[k]? := List.getElem?_append_left hk
theorem set_lt {h l : List Ob} {k : Nat} (hk : k < h.length) (o : Ob) : (h ++ l).set k o = h.set k o ++ l := List.set_append_left _ _ hk
theorem frz_one {h : List Ob} {id m : Nat} {o : Ob} (ho : h[id]? = some o) : frzAll h [(id, m)] = h.set id { o with frz := max o.frz m } := by
  simp [frzAll, frzOb, ho]
attribute [simp high] get_app get_app0 set_app set_app0 List.getElem?_cons_zero List.getElem?_cons_succ
end Go.Proofs.YtlpadffinfijgaaW.Rg
