/-
  strings.ContainsFunc over the program's own question on a name's signs.
-/
import Derived.Test.YtcecleclipcheaaU6
import Derived.Test.YtcecleclipcheaaU7
import Derived.Test.YtcecleclipcheaaSh28
import Derived.Test.YtcecleclipcheaaSh24
import Derived.Lib.OthersKept
import Derived.Lib.TrimU
import Derived.Deep.LoopGhost
import Derived.WalkKit
import Derived.Lib.Walk
import Derived.Laws.RangeString
set_option linter.unusedVariables false
set_option linter.unusedSimpArgs false
namespace Go.Proofs.Ytcecleclipcheaa
open Go Go.RowKit Go.Lib Go.Shade Go.Fence

def badR (r : Nat) : Bool := (decide ((r : Int) < 97) || decide (122 < (r : Int))) && (decide ((r : Int) < 48) || decide (57 < (r : Int)))
def idxG (p : Nat → Bool) (s : ByteArray) : Nat → Nat → Int
  | 0, _ => -1
  | f + 1, pos => if pos < s.size then (if p (Utf8.decode s pos).1 = true then (pos : Int) else idxG p s f (pos + (Utf8.decode s pos).2)) else -1
theorem idxG_end (p : Nat → Bool) (s : ByteArray) (f pos : Nat) (h : ¬ pos < s.size) : idxG p s f pos = -1 := by cases f <;> simp [idxG, h]

section
attribute [local congr] ite_congr
set_option maxHeartbeats 1000000 in
set_option maxRecDepth 10000 in
theorem e_sign (r : Nat) (stk : Stk) : cl Try.prog an prm0 175 [.int .i32 r] stk = some (.bool (badR r), stk) := by
  rw [cl_eq rfl Try.func175 rfl _ _ (by simp [Try.f175])]
  simp +contextual (maxSteps := 10000000) only [thenE_nm, thenE_ex, thenE_rt, thenE_none, blockE_nm, blockE_rt, blockE_ex, blockE_none, bodyE_nm, bodyE_rt, look_nil, look_cons, ins_nil, ins_cons, lookB_zero, lookB_one, lookB_two, lookB_three, setB_zero, setB_one, setB_two, setB_three, newB_cons, ev_seq, ev_region, ev_skip, ev_label, ev_exit, ev_ret, ev_block, ev_condE, condE_true, condE_false, evR_false, evR_true, opd_tmp, opd_int, opd_bool, opd_str, opd_nil, opd_nili, opd_func, cons2_some, opds_nil, opds_cons, sh_int, un_int, co_int, fz_int, pure_int, cs_int, cl_int, nls_int, fixNl_int, sh_bool, un_bool, co_bool, fz_bool, pure_bool, cs_bool, cl_bool, nls_bool, fixNl_bool, sh_str, un_str, co_str, fz_str, pure_str, cs_str, cl_str, nls_str, fixNl_str, sh_sl, un_sl, co_sl, fz_sl, pure_sl, cs_sl, cl_sl, nls_sl, fixNl_sl, sh_nl, un_nl, co_nl, fz_nl, pure_nl, cs_nl, cl_nl, nls_nl, fixNl_nl, sh_ap, un_ap, co_ap, fz_ap, pure_ap, cs_ap, cl_ap, cl_ap1, nls_ap, fixNl_ap, sh_row, un_row, rowCo_fz, co_row, rowFz_row, rowFz_fz, fz_row, pure_row, cs_row, cl_row, cl_row1, nls_row, fixNl_row, sh_ptr, un_ptr, co_ptr, fz_ptr, pure_ptr, cs_ptr, cl_ptr, cl_ptr1, nls_ptr, fixNl_ptr, sh_rptr, un_rptr, co_rptr, fz_rptr, pure_rptr, cs_rptr, cl_rptr, cl_rptr1, nls_rptr, fixNl_rptr, sh_eptr, un_eptr, co_eptr, fz_eptr, pure_eptr, cs_eptr, cl_eptr, nls_eptr, fixNl_eptr, sh_mp, un_mp, co_mp, fz_mp, pure_mp, cs_mp, cl_mp, cl_mp1, nls_mp, fixNl_mp, sh_fn, co_fn, fz_fn, pure_fn, cs_fn, nls_fn, fixNl_fn, sh_ifc, un_ifc, co_ifc, fz_ifc, pure_ifc, cs_ifc, cl_ifc, nls_ifc, fixNl_ifc, sh_nili, un_nili, co_nili, fz_nili, pure_nili, cs_nili, cl_nili, nls_nili, fixNl_nili, sh_nilp, un_nilp, co_nilp, fz_nilp, pure_nilp, cs_nilp, cl_nilp, nls_nilp, fixNl_nilp, sh_nilm, un_nilm, co_nilm, fz_nilm, pure_nilm, cs_nilm, cl_nilm, nls_nilm, fixNl_nilm, sh_nilf, un_nilf, co_nilf, fz_nilf, pure_nilf, cs_nilf, cl_nilf, nls_nilf, fixNl_nilf, sh_agg, un_agg, co_agg, fz_agg, pure_agg, cs_agg, cl_agg, nls_agg, fixNl_agg, sh_tup, un_tup, co_tup, fz_tup, pure_tup, cs_tup, cl_tup, nls_tup, fixNl_tup, sh_dead, un_dead, co_dead, fz_dead, pure_dead, cs_dead, cl_dead, nls_dead, fixNl_dead, fn2_some, un_fn, cl_fn, shL_nil, shL_cons, unL_nil, unL_cons, coL_nil, coL_cons, clL_nil, clL_cons, fzL_nil, fzL_cons, up_zero, up_one, up_two, down_zero, down_one, down_two, initT_nil, initT_cons, prune_none, pru2_some, prune_some, conT_some, conB_some, keepT_nil, keepT_cons, keepF_nil, keepF_cons, keepB_nil, keepB_cons, clB_cells, clB_tok, clB_row, clB_fz, clB_smap, goL_some, goL_skip, goV_some, goV_skip, goS_some, goL_map, goL_mapS, evL_nil, gw_bool, gw_dead, gl_some, evL_guard, goG_true, goG_false, goG_false', evL_move, asg_int, asg_bool, asg_str, asg_sl, asg_ap, asg_row, asg_ptr, asg_rptr, asg_eptr, asg_mp, asg_fn, asg_ifc, asg_nili, asg_nilp, asg_nilm, asg_nilf, asg_agg, asg_tup, asg_dead, asg_nl, evL_assign, pck_true, pck_false, evL_pick, evL_alloc, bxV_eq, evL_box, evL_build, evL_buildSlice, evL_load, evL_store, nck_ptr, nck_rptr, nck_eptr, evL_nilCheck, evL_binOp, evL_unOp, evL_convert, evL_makeInterface, evL_makeFunc, evL_makeMap, msl2_some, evL_makeSlice, evL_slice0, evL_slice1, evL_slice2, evL_slice3, evL_fieldAddr, ixI_int, evL_indexAddr, evL_index, evL_lookup, evL_mapUpdate, evL_insert, xtV_tup, evL_extract, evL_builtin, evL_call, evL_invoke, calK_fn, cal2_some, calV_false, calQ_some, calV_true, noTok_nil, noTok_cons, noTokF_eq, noTokG_nil, noTokG_cons, noTokQ_some, calG_some, biN_int, biN_str, biN_bool, biN_nili, biN_ifc, biN_agg, eqR_eql, eqR_neq, isC_tmp, isC_const, eqVL_nil, and2_some, eqVL_cons, eqV_int, eqV_str, eqV_bool, ar_add, ar_sub, ar_mul, ar_quo, ar_rem, ar_eql, ar_neq, ar_lss, ar_leq, ar_gtr, ar_geq, st_add, st_eql, st_neq, st_lss, st_leq, st_gtr, st_geq, un_not, un_neg, asSl_sl, asSl_nl, asSl_ap, rowSl_row, rowSl_fz, asSl_row, blt_len, goP_some, len_str, len_sl, len_nl, len_ap, rowLen_some, len_row, blt_max, blt_min, blt_app, ld2_true, ld2_false, ldV_eq, ldC_cells, ldA_ptr, ldA_eptr, ldR_row, ldR_fz, ldA_rptr, fd_ptr, fd_rptr, fd_eptr, ix2_some, ix_sl, ix_ap, ixr_row, ixr_fz, ix_row, ixp_some, ix_ptr, ixV_str, bd2_some, slV_str, slV_sl, slV_ap, bd_none, bd_lo, bd_hi, bd_both, st2_some, st3_some, stT_some, stA_ptr, stA_rptr, elems_nil, elemC_some, elems_cons, resV_nil, resV_tmp, resV_cell, bk2_one, bk2_two, backV_eq, bk3_cons, bk1_some, roundE_nm, lastE_ex, lastE_rt, beq_tt, beq_ft, beq_tf, beq_ff, ↓reduceIte, Nat.reduceLT, Nat.reduceEqDiff, Nat.reduceAdd, Nat.reduceSub, Nat.reduceMul, Nat.reduceLeDiff, Nat.reduceBEq, Option.map_some, Option.bind_some, Option.map_none, Option.bind_none, Option.getD_none, Option.getD_some, Bool.false_eq_true, List.contains_cons, List.contains_nil, Bool.or_false, Bool.false_or, Bool.or_true, Bool.true_or, Bool.and_true, Bool.true_and, Bool.not_true, Bool.not_false, and_true, true_and, and_self, List.length_cons, List.length_nil, Nat.zero_add, Nat.add_zero, List.drop_zero, List.drop_succ_cons, List.take_succ_cons, List.take_zero, List.append_nil, List.nil_append, List.cons_append, List.map_cons, List.map_nil, List.zip_cons_cons, List.zip_nil_left, List.zip_nil_right, List.all_cons, List.all_nil, gslot_zero, gslot_succ, decide_true, decide_false, beq_self_eq_true, List.head?_cons, List.getElem?_cons_zero, List.getElem?_cons_succ, reduceCtorEq, headR, lookB_four, lookB_five, up_three, up_four, up_five, down_three, down_four, c1i, c2i, c3i, c4i, c20i, Bool.and_false, Bool.false_and, okL_nil, okL_cons, okB_int, okB_bool, okB_str, okB_sl, okB_nl, okB_nili, okB_nilf, okB_ptr, okB_rptr, okB_row, okB_mp, okB_fn, okB_ifc, okB_agg, okB_tup, quiet_cells, quiet_tok, quiet_row, quiet_fz, quiet_smap, quiet_imap, flat_int, flat_bool, flat_str, flat_sl, flat_nl, flat_nili, flat_nilf, flat_nilm, flat_ptr, flat_rptr, flat_row, flat_mp, flat_fn, flat_ap, flat_eptr, flat_ifc, List.append_eq, Int.toNat_natCast, List.length_map, true_implies, forall_const, false_implies, implies_true, not_true_eq_false, Bool.decide_eq_true, goG_mrg, ite_mrg, v_bool, v_int, v_str, ite_or, ite_and, ite_orn, ite_andn, ite_or', ite_and', ite_orn', ite_andn', ite_someB, gw_ite, pck_mrg, map_pair, evO_move, evO_pick, evO_load, evO_binOp, evO_unOp, evO_convert, evO_fieldAddr, evO_indexAddr, evO_index, evO_lookup, evO_build, evO_buildSlice, evO_slice1, evO_slice2, evO_slice3, evO_builtin, evO_call, evO_extract, wrap_i64, wrap_u8, wrap_i32, bytes_nil, bytes_cons, ba_size, ba_app, List.size_toArray, Int.reduceAdd, Int.reduceSub, Int.reduceMul, Int.reduceLT, Int.reduceLE, Int.reduceToNat, Int.reduceNeg, Int.reduceEq, Int.reduceNe, UInt8.reduceOfNat, List.append_toArray, ↓ite_nb, ↓ite_bf, ↓ite_bt, ↓ite_not, goV_none, goL_none, goS_none, bodyE_none, condE_dead, beqb_false, beqb_true, bsl_eq, bslD_eq, elemC_eq, msl_eq, bld_eq, fill_nil, fil2_some, fill_cons, spl_eq, isSome_some, cvV_eq, cvX_int, cvX_str, cvX_sl, mkI_eq, calI_eq, calM_some, lkM_mp, lk2_s, lk2_i, lkR_some, lkR_none, puM_mp, pu2_s, pu2_i, ml_nil, ml_cons, mp_nil, mp_cons, clB_imap, apx_tok, apw_some, appV_eq, appV_nl, apn_some, mk2_none, mkV_eq, Bool.not_eq_true, Bool.not_eq_true', Bool.not_eq_false, Bool.not_eq_false', Bool.not_not, goV_ite, goL_ite, not_false_eq_true, not_true_eq_false, thenE_ite, blockE_ite, bodyE_ite, map_ite, bind_ite, condE_bool, putD_some, putD_none, pruP_some, nextE_nm, nextE_ex, nextE_rt, nextE_ite, tyAg_0, tyAg_1, zeroC_1, tyAg_2, zeroC_2, tyAg_3, zeroC_3, tyAg_4, zeroC_4, eqK_4, tyAg_5, zeroC_5, tyAg_6, zeroC_6, tyAg_7, zeroC_7, eqK_7, fdOff_7_0, fdPl_7_0, fdOff_7_1, fdPl_7_1, fdOff_7_2, fdPl_7_2, fdOff_7_3, fdPl_7_3, tyAg_8, zeroC_8, eqK_8, fdOff_8_0, fdPl_8_0, fdOff_8_1, fdPl_8_1, fdOff_8_2, fdPl_8_2, fdOff_8_3, fdPl_8_3, tyAg_9, kdT_9, zeroC_9, tyAg_10, kdT_10, zeroC_10, tyAg_11, kdT_11, zeroC_11, tyAg_12, zeroC_12, tyAg_13, zeroC_13, fdOff_13_0, fdPl_13_0, fdOff_13_1, fdPl_13_1, tyAg_14, zeroC_14, fdOff_14_0, fdPl_14_0, fdOff_14_1, fdPl_14_1, tyAg_15, zeroC_15, tyAg_16, zeroC_16, tyAg_17, zeroC_17, tyAg_18, zeroC_18, fdOff_18_0, fdPl_18_0, tyAg_19, zeroC_19, fdOff_19_0, fdPl_19_0, tyAg_20, zeroC_20, eqK_20, tyAg_21, zeroC_21, slSz_22, slTy_22, tyAg_22, kdT_22, zeroC_22, slSz_23, slTy_23, tyAg_23, kdT_23, zeroC_23, tyAg_24, zeroC_24, fdOff_24_0, fdPl_24_0, fdOff_24_1, fdPl_24_1, tyAg_25, zeroC_25, fdOff_25_0, fdPl_25_0, fdOff_25_1, fdPl_25_1, tyAg_26, zeroC_26, tyAg_27, zeroC_27, slSz_28, slTy_28, tyAg_28, kdT_28, zeroC_28, tyAg_29, tyAg_30, zeroC_30, tyAg_31, zeroC_31, tyAg_32, zeroC_32, tyAg_33, zeroC_33, tyAg_34, zeroC_34, fdOff_34_0, fdPl_34_0, fdOff_34_1, fdPl_34_1, tyAg_35, zeroC_35, fdOff_35_0, fdPl_35_0, fdOff_35_1, fdPl_35_1, slSz_36, slTy_36, tyAg_36, kdT_36, zeroC_36, tyAg_37, zeroC_37, fdOff_37_0, fdPl_37_0, fdOff_37_1, fdPl_37_1, tyAg_38, zeroC_38, fdOff_38_0, fdPl_38_0, fdOff_38_1, fdPl_38_1, slSz_39, slTy_39, tyAg_39, kdT_39, zeroC_39, slSz_40, slTy_40, tyAg_40, kdT_40, zeroC_40, slSz_41, slTy_41, tyAg_41, kdT_41, zeroC_41, tyAg_42, zeroC_42, fdOff_42_0, fdPl_42_0, fdOff_42_1, fdPl_42_1, fdOff_42_2, fdPl_42_2, fdOff_42_3, fdPl_42_3, fdOff_42_4, fdPl_42_4, tyAg_43, zeroC_43, fdOff_43_0, fdPl_43_0, fdOff_43_1, fdPl_43_1, fdOff_43_2, fdPl_43_2, fdOff_43_3, fdPl_43_3, fdOff_43_4, fdPl_43_4, slSz_44, slTy_44, tyAg_44, kdT_44, zeroC_44, tyAg_45, zeroC_45, tyAg_46, zeroC_46, tyAg_47, zeroC_47, tyAg_48, zeroC_48, tyAg_49, zeroC_49, slSz_50, slTy_50, tyAg_50, kdT_50, zeroC_50, tyAg_51, zeroC_51, tyAg_52, zeroC_52, eqK_52, fdOff_52_0, fdPl_52_0, fdOff_52_1, fdPl_52_1, fdOff_52_2, fdPl_52_2, tyAg_53, zeroC_53, eqK_53, fdOff_53_0, fdPl_53_0, fdOff_53_1, fdPl_53_1, fdOff_53_2, fdPl_53_2, tyAg_54, zeroC_54, tyAg_55, zeroC_55, tyAg_56, zeroC_56, tyAg_57, zeroC_57, tyAg_58, tyAg_59, zeroC_59, tyAg_60, zeroC_60, slSz_61, slTy_61, tyAg_61, kdT_61, zeroC_61, tyAg_62, zeroC_62, fdOff_62_0, fdPl_62_0, tyAg_63, zeroC_63, fdOff_63_0, fdPl_63_0, tyAg_64, zeroC_64, tyAg_65, zeroC_65, eqK_65, fdOff_65_0, fdPl_65_0, fdOff_65_1, fdPl_65_1, fdOff_65_2, fdPl_65_2, fdOff_65_3, fdPl_65_3, fdOff_65_4, fdPl_65_4, tyAg_66, zeroC_66, eqK_66, fdOff_66_0, fdPl_66_0, fdOff_66_1, fdPl_66_1, fdOff_66_2, fdPl_66_2, fdOff_66_3, fdPl_66_3, fdOff_66_4, fdPl_66_4, tyAg_67, zeroC_67, slSz_68, slTy_68, tyAg_68, kdT_68, zeroC_68, tyAg_69, zeroC_69, eqK_69, fdOff_69_0, fdPl_69_0, fdOff_69_1, fdPl_69_1, fdOff_69_2, fdPl_69_2, fdOff_69_3, fdPl_69_3, fdOff_69_4, fdPl_69_4, tyAg_70, zeroC_70, eqK_70, fdOff_70_0, fdPl_70_0, fdOff_70_1, fdPl_70_1, fdOff_70_2, fdPl_70_2, fdOff_70_3, fdPl_70_3, fdOff_70_4, fdPl_70_4, tyAg_71, zeroC_71, tyAg_72, zeroC_72, eqK_72, fdOff_72_0, fdPl_72_0, fdOff_72_1, fdPl_72_1, tyAg_73, zeroC_73, eqK_73, fdOff_73_0, fdPl_73_0, fdOff_73_1, fdPl_73_1, tyAg_81, slSz_87, slTy_87, tyAg_87, kdT_87, zeroC_87, tyAg_88, kdT_88, zeroC_88, mpTy_88, slSz_89, slTy_89, tyAg_89, kdT_89, zeroC_89, tyAg_91, zeroC_91, fdOff_91_0, fdPl_91_0, fdOff_91_1, fdPl_91_1, tyAg_93, zeroC_93, eqK_93, fdOff_93_0, fdPl_93_0, fdOff_93_1, fdPl_93_1, tyAg_95, zeroC_95, fdOff_95_0, fdPl_95_0, fdOff_95_1, fdPl_95_1, fdOff_95_2, fdPl_95_2, tyAg_97, zeroC_97, tyAg_99, tyAg_105, zeroC_105, tyAg_107, kdT_107, zeroC_107, mpTy_107, tyAg_109, zeroC_109, tyAg_111, zeroC_111, slSz_113, slTy_113, tyAg_113, kdT_113, zeroC_113, tyAg_114, tyAg_121, zeroC_121, tyAg_122, zeroC_122, tyAg_125, zeroC_125, tyAg_126, zeroC_126, tyAg_128, zeroC_128, fdOff_128_0, fdPl_128_0, fdOff_128_1, fdPl_128_1, tyAg_130, zeroC_130, fdOff_130_0, fdPl_130_0, tyAg_132, zeroC_132, fdOff_132_0, fdPl_132_0, fdOff_132_1, fdPl_132_1, tyAg_141, tyAg_144, tyAg_146, zeroC_146, slSz_148, slTy_148, tyAg_148, kdT_148, zeroC_148, tyAg_150, zeroC_150, fdOff_150_0, fdPl_150_0, fdOff_150_1, fdPl_150_1, fdOff_150_2, fdPl_150_2, fdOff_150_3, fdPl_150_3, tyAg_153, zeroC_153, tyAg_164, zeroC_164, eqK_164, tyAg_166, zeroC_166, tyAg_167, zeroC_167, tyAg_168, tyAg_171, zeroC_171, eqK_171, tyAg_174, zeroC_174, tyAg_177, zeroC_177, eqK_177, fdOff_177_0, fdPl_177_0, fdOff_177_1, fdPl_177_1, tyAg_179, zeroC_179, arrLen_179, arrOne_179, fdPl_179_0, fdPl_179_1, fdPl_179_2, fdPl_179_3, fdPl_179_4, fdPl_179_5, tyAg_182, zeroC_182, tyAg_183, zeroC_183, tyAg_184, zeroC_184, tyAg_186, zeroC_186, fdOff_186_0, fdPl_186_0, fdOff_186_1, fdPl_186_1, tyAg_189, zeroC_189, tyAg_193, zeroC_193, tyAg_194, zeroC_194, tyAg_199, zeroC_199, eqK_199, fdOff_199_0, fdPl_199_0, fdOff_199_1, fdPl_199_1, fdOff_199_2, fdPl_199_2, tyAg_202, zeroC_202, fdOff_202_0, fdPl_202_0, tyAg_204, zeroC_204, fdOff_204_0, fdPl_204_0, tyAg_205, zeroC_205, fdOff_205_0, fdPl_205_0, tyAg_206, zeroC_206, fdOff_206_0, fdPl_206_0, tyAg_209, tyAg_212, zeroC_212, tyAg_214, zeroC_214, tyAg_216, zeroC_216, fdOff_216_0, fdPl_216_0, tyAg_221, zeroC_221, tyAg_222, zeroC_222, arrLen_222, arrOne_222, fdPl_222_0, fdPl_222_1, fdPl_222_2, fdPl_222_3, fdPl_222_4, fdPl_222_5, tyAg_224, tyAg_227, zeroC_227, tyAg_236, zeroC_236, tyAg_237, zeroC_237, slSz_238, slTy_238, tyAg_238, kdT_238, zeroC_238, tyAg_243, zeroC_243, tyAg_244, tyAg_251, zeroC_251, tyAg_253, zeroC_253, tyAg_255, zeroC_255, tyAg_256, zeroC_256, tyAg_257, zeroC_257, tyAg_259, zeroC_259, tyAg_263, zeroC_263, tyAg_265, zeroC_265, tyAg_266, zeroC_266, tyAg_267, tyAg_282, zeroC_282, arrLen_282, arrOne_282, fdPl_282_0, fdPl_282_1, fdPl_282_2, fdPl_282_3, fdPl_282_4, fdPl_282_5, cvT_3_5, cvT_3_214, cvT_5_3, cvT_113_9, cvT_214_3, cvT_214_251, cvT_251_5, cvT_253_5, ikT_199, ikT_204, ikT_205, ikT_206, mthV_204_fencepost_ops_has, mthV_204_fencepost_ops_words, mthV_205_fencepost_ops_has, mthV_205_fencepost_ops_words, mthV_206_fencepost_ops_has, mthV_206_fencepost_ops_words, gr175, ab175, rb175, rs175]
  simp only [badR]
end

theorem c_sign (r : Nat) (W : World) : Calls Try.prog 175 #[.int .i32 r] W fun e w' => e = .returned (.bool (badR r)) ∧ Below W.heap.size W w' := by
  refine ((sound snd0) W _ _ _ W 175 [.int .i32 r] _ [.int .i32 r] (e_sign r []) (wr_all W) rfl fun i u x hu hx => ?_).2.mono ?_
  · match i with
    | 0 => simp at hu hx; subst hu; subst hx; exact .rd (.int _ _)
    | i + 1 => simp at hu
  · rintro e w' ⟨v, g', rfl, h1, h2, _⟩
    exact ⟨by rw [h1.bool_inv], h2.below⟩

set_option maxHeartbeats 2000000 in
set_option maxRecDepth 1000000 in
theorem c_indexFunc (s : ByteArray) (w : World) : Calls Try.prog 199 #[.string s, .func (.func 175) #[] #[], .bool true] w fun e w' => e = .returned (.int .i64 (idxG badR s s.size 0)) ∧ Below w.heap.size w w' := by
  go_enter Try.func199, Try.ntmps199
  go_wp2
  go_loopg [] s.size (fun gf wx => ∃ pos : Nat, wx.heap[w.heap.size]? = some (.stringIter s pos) ∧ Below w.heap.size w wx ∧ idxG badR s gf pos = idxG badR s s.size 0 ∧ s.size ≤ pos + gf)
  case atStart => exact ⟨0, World.iter_heap w s 0, (Below.refl _ w).alloc (Nat.le_refl _) _, rfl, by omega⟩
  case round =>
    obtain ⟨pos, hit, hbw, hleft, hfu⟩ := hrel
    by_cases hps : pos < s.size
    · obtain ⟨g', rfl⟩ : ∃ g', gk = g' + 1 := ⟨gk - 1, by omega⟩
      have hnx : ∀ ty, (Instr.next (.pointer (some ⟨w.heap.size, 0, none⟩)) true ty).run Try.prog wr = _ := fun ty => Lib.run_next_any_at wr w.heap.size s pos ty hit hps
      have hwd := Lib.width_pos s pos
      obtain ⟨R, hR⟩ : ∃ R, (Utf8.decode s pos).1 = R := ⟨_, rfl⟩
      obtain ⟨K, hK⟩ : ∃ K, (Utf8.decode s pos).2 = K := ⟨_, rfl⟩
      simp only [idxG, hps, if_true, hR, hK] at hleft
      rw [hR, hK] at hnx
      rw [hK] at hwd
      have hit2 := Lib.iterAt_heap wr w.heap.size s pos (pos + K) hit
      have hbw2 := Lib.below_iterAt hbw (k := w.heap.size) (Nat.le_refl _) s (pos + K)
      obtain ⟨W, hWd⟩ : ∃ W, wr.iterAt w.heap.size s (pos + K) = W := ⟨_, rfl⟩
      rw [hWd] at hnx hit2 hbw2
      have cS := c_sign R W
      cases hsp : badR R <;> rw [hsp] at cS <;> simp only [hsp, if_true, Bool.false_eq_true, Bool.true_eq_false, if_false] at hleft
      · go_wp2_with (go_at_call 175; refine cS.mono ?_; rintro e W' ⟨rfl, hB⟩)
        go_roundg g'
        case measure => omega
        case rel => exact ⟨pos + K, (hB.block _ (Array.getElem?_eq_some_iff.1 hit2).1).trans hit2, hbw2.trans (hB.mono hbw2.size), hleft, by omega⟩
      · go_wp2_with (go_at_call 175; refine cS.mono ?_; rintro e W' ⟨rfl, hB⟩)
        go_ret
        exact ⟨by rw [← hleft] <;> rfl, hbw2.trans (hB.mono hbw2.size)⟩
    · have hnx : ∀ ty, (Instr.next (.pointer (some ⟨w.heap.size, 0, none⟩)) true ty).run Try.prog wr = _ := fun ty => Lib.run_next_end_at wr w.heap.size s pos ty hit hps
      rw [idxG_end badR s gk pos hps] at hleft
      go_wp2
      go_ret
      exact ⟨by rw [← hleft] <;> rfl, hbw⟩

theorem c_indexFn (s : ByteArray) (w : World) : Calls Try.prog 184 #[.string s, .func (.func 175) #[] #[]] w fun e w' => e = .returned (.int .i64 (idxG badR s s.size 0)) ∧ Below w.heap.size w w' := by
  have cI := c_indexFunc s
  obtain ⟨I, hI⟩ : ∃ I, idxG badR s s.size 0 = I := ⟨_, rfl⟩
  rw [hI] at cI ⊢
  go_enter Try.func184, Try.ntmps184
  go_wp2_with (go_at_call 199; refine (cI _).mono ?_; rintro e w' ⟨rfl, hb⟩)
  go_ret
  exact ⟨rfl, hb⟩
theorem c_containsFn (s : ByteArray) (w : World) : Calls Try.prog 174 #[.string s, .func (.func 175) #[] #[]] w fun e w' => e = .returned (.bool (decide (0 ≤ idxG badR s s.size 0))) ∧ Below w.heap.size w w' := by
  have cI := c_indexFn s
  obtain ⟨I, hI⟩ : ∃ I, idxG badR s s.size 0 = I := ⟨_, rfl⟩
  rw [hI] at cI ⊢
  go_enter Try.func174, Try.ntmps174
  go_wp2_with (go_at_call 184; refine (cI _).mono ?_; rintro e w' ⟨rfl, hb⟩)
  go_ret
  exact ⟨rfl, hb⟩

theorem bad_low (b : UInt8) (h : b.toNat < 128) : badR b.toNat = !(lowB b || digB b) := by
  unfold badR lowB digB
  by_cases h1 : 97 ≤ b.toNat ∧ b.toNat ≤ 122
  · have a1 : ¬ ((b.toNat : Int) < 97) := by omega
    have a2 : ¬ (122 < (b.toNat : Int)) := by omega
    simp [h1, a1, a2]
  · by_cases h2 : 48 ≤ b.toNat ∧ b.toNat ≤ 57
    · have a1 : ¬ ((b.toNat : Int) < 48) := by omega
      have a2 : ¬ (57 < (b.toNat : Int)) := by omega
      simp [h2, a1, a2]
    · simp only [h1, h2, decide_false, Bool.or_false, Bool.not_false, Bool.and_eq_true, Bool.or_eq_true, decide_eq_true_eq]
      omega
theorem bad_high {r : Nat} (h : 128 ≤ r) : badR r = true := by
  simp only [badR, Bool.and_eq_true, Bool.or_eq_true, decide_eq_true_eq]; omega
theorem decode_high (n b0 b1 b2 b3 : Nat) (h : 128 ≤ b0) : 128 ≤ (decodeN n b0 b1 b2 b3).1 := by
  unfold decodeN
  repeat' split
  all_goals first | omega | (simp only; omega)
theorem odd_iff (s : ByteArray) : ∀ (f pos : Nat), s.size ≤ pos + f → (0 ≤ idxG badR s f pos ↔ ((s.data.toList.drop pos).all fun c => lowB c || digB c) = false)
  | 0, pos, h => by
    have : s.data.toList.drop pos = [] := List.drop_eq_nil_of_le (by rw [Array.length_toList]; exact h)
    simp [idxG, this]
  | f + 1, pos, h => by
    by_cases hp : pos < s.size
    · have hp' : pos < s.data.toList.length := by rw [Array.length_toList]; exact hp
      have hd : s.data.toList.drop pos = s.data.toList[pos] :: s.data.toList.drop (pos + 1) := List.drop_eq_getElem_cons hp'
      have hb : s.get! pos = s.data.toList[pos] := by
        show s.data[pos]! = _
        rw [getElem!_pos s.data pos hp]
        simp
      simp only [idxG, hp, if_true]
      rw [decode_at, hb, hd, List.all_cons]
      generalize s.data.toList[pos] = b
      by_cases h1 : b.toNat < 128
      · have e1 : ∀ n b1 b2 b3, decodeN n b.toNat b1 b2 b3 = (b.toNat, 1) := fun n b1 b2 b3 => by simp [decodeN, h1]
        rw [e1]
        simp only
        rw [bad_low b h1]
        cases hc : (lowB b || digB b) with
        | false => simp
        | true =>
          simp only [Bool.not_true, Bool.false_eq_true, if_false, Bool.true_and]
          exact odd_iff s f (pos + 1) (by omega)
      · have h2 := bad_high (decode_high (s.size - pos) b.toNat (s.get! (pos + 1)).toNat (s.get! (pos + 2)).toNat (s.get! (pos + 3)).toNat (by omega))
        have h3 : (lowB b || digB b) = false := by simp [lowB, digB]; omega
        simp [h2, h3]
    · have : s.data.toList.drop pos = [] := List.drop_eq_nil_of_le (by rw [Array.length_toList]; exact Nat.le_of_not_lt hp)
      simp [idxG, hp, this]
theorem odd_eq (s : ByteArray) : decide (0 ≤ idxG badR s s.size 0) = oddB s := by
  have := odd_iff s s.size 0 (by omega)
  rw [List.drop_zero] at this
  unfold oddB
  cases h : (s.data.toList.all fun c => lowB c || digB c) with
  | true => rw [h] at this; simpa using this
  | false => rw [h] at this; simpa using this

theorem below_cell {w w' : World} (h : Below w.heap.size w w') {a : Addr} (ha : a.block < w.heap.size) : w'.cell? a = w.cell? a := by
  unfold World.cell?
  rw [h.block _ ha]
theorem prim_cf : PrimSnd Try.prog 174 (cfP 175) := by
  intro W0 Φ g stk w xs r us hr hw hl hv
  unfold cfP at hr
  split at hr
  · rename_i s f stk
    split at hr
    · rename_i hf
      subst hf
      cases hr
      match us, hl with
      | [u, v], _ =>
      have h1 := (hv 0 u _ rfl rfl)
      have h2 := (hv 1 v _ rfl rfl)
      obtain rfl := h1.str_inv
      cases h2 with
      | rd h => cases h
      | fn _ _ _ vs ws k1 k2 _ _ =>
      obtain rfl := List.eq_nil_of_length_eq_zero k1
      obtain rfl := List.eq_nil_of_length_eq_zero k2
      refine ⟨enter_ok Try.func174 (by kernel_rfl) rfl _ _, (c_containsFn _ w).mono ?_⟩
      rintro e w' ⟨rfl, hb⟩
      have hm := hw.more (g' := g) (w' := w') hb.os hb.tape hb.output hb.size (fun i hi => hb.block i hi) rfl (fun _ _ h => h) (fun a v h => by
        have := hw.mem a v h
        rw [← this]
        exact below_cell hb (World.block_lt_of_cell? w a this)) (fun _ _ h _ => h)
      exact ⟨_, g, rfl, by rw [odd_eq]; exact .rd (.bool _), hm.1, Ext.refl 0 g⟩
    · cases hr
  · cases hr
end Go.Proofs.Ytcecleclipcheaa
