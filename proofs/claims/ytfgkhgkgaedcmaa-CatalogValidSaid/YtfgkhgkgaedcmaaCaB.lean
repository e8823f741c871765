/- The plain data of chapter 19; names. -/
import Derived.Test.YtfgkhgkgaedcmaaCaA
set_option linter.unusedVariables false
set_option linter.unusedSimpArgs false
set_option maxRecDepth 100000
namespace Go.Vm

structure Col where
  name : List UInt8
  ty : Int
  deriving Inhabited
def Col.row (c : Col) : List SV := [.str c.name, .int .i64 c.ty]
def intRow (n : Int) : List SV := [.int .i64 n]
def strRow (s : List UInt8) : List SV := [.str s]
structure Idx where
  id : Int
  name : List UInt8
  cols : Slc Int
  deriving Inhabited
def Idx.row (x : Idx) : List SV := [.int .i64 x.id, .str x.name, x.cols.sv intRow]
structure Tab where
  id : Int
  name : List UInt8
  cols : Slc Col
  key : Slc Int
  idx : Slc Idx
  deriving Inhabited
def Tab.row (t : Tab) : List SV := [.int .i64 t.id, .str t.name, t.cols.sv Col.row, t.key.sv intRow, t.idx.sv Idx.row]
structure Viw where
  id : Int
  name : List UInt8
  text : List UInt8
  mat : Bool
  deriving Inhabited
def Viw.row (v : Viw) : List SV := [.int .i64 v.id, .str v.name, .str v.text, .bool v.mat]
structure Cat where
  tabs : Slc Tab
  views : Slc Viw
  next : Int
  deriving Inhabited
def Cat.row (c : Cat) : List SV := [c.tabs.sv Tab.row, c.views.sv Viw.row, .int .i64 c.next]

def okCh (b : UInt8) : Bool := decide (97 ≤ (b.toNat : Int)) && decide ((b.toNat : Int) ≤ 122) || decide (48 ≤ (b.toNat : Int)) && decide ((b.toNat : Int) ≤ 57) || decide ((b.toNat : Int) = 95)
def vname (s : List UInt8) : Bool := decide (1 ≤ s.length ∧ s.length ≤ 31 ∧ 97 ≤ ((s.getD 0 0).toNat : Int) ∧ ((s.getD 0 0).toNat : Int) ≤ 122) && s.all okCh

theorem t14 (s : List UInt8) (hs : s.length ≤ 1073741824) : calL EE 14 [.str s] [] = some (.ret (.bool (vname s)), []) := by
  refine fn_ok f14 (by simp) ?_
  unfold c14
  simp only [WP_seq, WP_reg, WP_skip, WP_exit, WP_ret, WP_cond, WP_block, WP_regD, chkQ_normal, frz_nil, frz_cons, frz1_s, frz1_ptr, frz1_agg, frz1_func, frz1_st, thenQ_normal, thenQ_ret, thenQ_exit, blkQ_normal, blkQ_ret, blkQ_exit, nextQ_normal, nextQ_ret, nextQ_exit, Fin_ret, Fin_normal, FinR_ret, FinR_normal, FinF, FinE_ret, FinE_normal, contQ_normal, contQ_ret, contQ_exit,
  WS_nil, WS_set, WS_tick, WS_need, WS_needG, WS_act, WG_nil, WG_cons, WB_call, WB_callv, vals_nil, vals_cons, valsX_nil, valsX_cons, WB_box, WB_alloc, WB_store, WB_conv, WB_app, WB_mkm, WB_mupd, WB_mks, rows1, rows0, row1_s, WX_some, WX_gd, bnd_some, bnd_none, bnd_gd, if_gd, if_some, gd_True, evX_x, evX_op, evX_pick, evS_nil, evS_cons, evO_load, evO_chk, evO_bin, evO_un, evO_sl, evO_fa, evO_fv, evO_ia, evO_iv, evO_look, evO_ta, evO_ext,
  evO_len, evO_mx, evO_ifc, evO_mkf, evO_build, evO_convI, evO_convS, valX_t, valX_c, over_nil, over_cons, upd_at, set_at, putT, pick_ss, pick_sg, pick_gs, pick_gg, pick_bool, pick_int, pick_str, pick_and, pick_or, asB_bool, indexV_str, bounds_lh, bounds_h, bounds_l, bounds_n, slice_str,
  add_str, len_sv, len_slice, len_nils, len_str, fa_eptr, fa_ptr, load_eptr, load_ptr, load_aptr, loadH_map, len_hsl, lenH_sarr, ia_hsl, iaH_sarr, conv_bytes, List.length_map, u8_default, loadB_box, loadP_fs, loadP_ts, loadS_f, loadS_t, store_ptr, storeB_st, storeB_s, box_st, setCells, List.set_cons_zero, List.set_cons_succ, set_set, eq_self, resM, packR, enter, List.getD_cons_zero, List.getD_cons_succ, List.getD_nil, reduceIte, Nat.reduceEqDiff, Nat.reduceAdd, Nat.reduceLeDiff, Nat.reduceLT, Nat.add_left_cancel_iff, Nat.zero_add, Nat.add_zero, bi_add, bi_sub, bi_mul, bi_quo, bi_rem, bi_eql, bi_neq, bi_lss, bi_leq, bi_gtr, bi_geq, bs_eql, bs_neq, bs_lss, bb_eql, bb_neq, un_not, un_neg, valM,
  List.getElem?_cons_zero, List.getElem?_cons_succ, List.length_cons, List.length_nil, List.drop_succ_cons, List.drop_zero, List.take_succ_cons, List.take_zero, own_s, and_true, true_and, and_self, or_true, true_or, implies_true, Int.natCast_nonneg, Int.toNat_natCast, beq_true, beq_false, Bool.not_true, Bool.not_false, Bool.true_eq_false, Bool.false_eq_true, Bool.true_and, Bool.false_and, Bool.and_true, Bool.and_false, Bool.true_or, Bool.false_or, Bool.or_true, Bool.or_false, List.all_nil]
  simp only [Bool.or_eq_true, decide_eq_true_eq, Int.toNat_zero]
  refine ⟨by omega, ?_⟩
  split
  · rename_i h
    have : vname s = false := by
      unfold vname
      rw [decide_eq_false (by omega)]
      rfl
    rw [this]
  · rename_i h
    refine WP_loop rfl (fun k T H n => ∃ j, j + k = s.length ∧ T 3 = .i64 j ∧ (s.take j).all okCh = true) (k0 := s.length) ⟨0, by omega, rfl, rfl⟩ ?_
    rintro k T' H' n' hf ⟨j, hj, h3, hall⟩
    have h0 : T' 0 = .str s := hf 0 rfl
    clear hf
    by_cases hlt : j < s.length
    · simp only [WP_seq, WP_reg, WP_skip, WP_exit, WP_ret, WP_cond, WP_block, WP_regD, chkQ_normal, frz_nil, frz_cons, frz1_s, frz1_ptr, frz1_agg, frz1_func, frz1_st, thenQ_normal, thenQ_ret, thenQ_exit, blkQ_normal, blkQ_ret, blkQ_exit, nextQ_normal, nextQ_ret, nextQ_exit, Fin_ret, Fin_normal, FinR_ret, FinR_normal, FinF, FinE_ret, FinE_normal, contQ_normal, contQ_ret, contQ_exit,
  WS_nil, WS_set, WS_tick, WS_need, WS_needG, WS_act, WG_nil, WG_cons, WB_call, WB_callv, vals_nil, vals_cons, valsX_nil, valsX_cons, WB_box, WB_alloc, WB_store, WB_conv, WB_app, WB_mkm, WB_mupd, WB_mks, rows1, rows0, row1_s, WX_some, WX_gd, bnd_some, bnd_none, bnd_gd, if_gd, if_some, gd_True, evX_x, evX_op, evX_pick, evS_nil, evS_cons, evO_load, evO_chk, evO_bin, evO_un, evO_sl, evO_fa, evO_fv, evO_ia, evO_iv, evO_look, evO_ta, evO_ext,
  evO_len, evO_mx, evO_ifc, evO_mkf, evO_build, evO_convI, evO_convS, valX_t, valX_c, over_nil, over_cons, upd_at, set_at, putT, pick_ss, pick_sg, pick_gs, pick_gg, pick_bool, pick_int, pick_str, pick_and, pick_or, asB_bool, indexV_str, bounds_lh, bounds_h, bounds_l, bounds_n, slice_str,
  add_str, len_sv, len_slice, len_nils, len_str, fa_eptr, fa_ptr, load_eptr, load_ptr, load_aptr, loadH_map, len_hsl, lenH_sarr, ia_hsl, iaH_sarr, conv_bytes, List.length_map, u8_default, loadB_box, loadP_fs, loadP_ts, loadS_f, loadS_t, store_ptr, storeB_st, storeB_s, box_st, setCells, List.set_cons_zero, List.set_cons_succ, set_set, eq_self, resM, packR, enter, List.getD_cons_zero, List.getD_cons_succ, List.getD_nil, reduceIte, Nat.reduceEqDiff, Nat.reduceAdd, Nat.reduceLeDiff, Nat.reduceLT, Nat.add_left_cancel_iff, Nat.zero_add, Nat.add_zero, bi_add, bi_sub, bi_mul, bi_quo, bi_rem, bi_eql, bi_neq, bi_lss, bi_leq, bi_gtr, bi_geq, bs_eql, bs_neq, bs_lss, bb_eql, bb_neq, un_not, un_neg, valM,
  List.getElem?_cons_zero, List.getElem?_cons_succ, List.length_cons, List.length_nil, List.drop_succ_cons, List.drop_zero, List.take_succ_cons, List.take_zero, own_s, and_true, true_and, and_self, or_true, true_or, implies_true, Int.natCast_nonneg, Int.toNat_natCast, beq_true, beq_false, Bool.not_true, Bool.not_false, Bool.true_eq_false, Bool.false_eq_true, Bool.true_and, Bool.false_and, Bool.and_true, Bool.and_false, Bool.true_or, Bool.false_or, Bool.or_true, Bool.or_false, List.all_nil, h0, h3, Int.ofNat_lt, hlt, wrap_succ (show j < 4611686018427387904 by omega), decide_true]
      split
      · rename_i h2
        have : vname s = false := by
          unfold vname
          rw [all_not 0 hlt (by simpa only [okCh, Bool.not_eq_true'] using h2), Bool.and_false]
        rw [this]
      · rename_i h2
        exact ⟨k - 1, by omega, j + 1, by omega, rfl, all_next 0 hlt hall (by simpa only [okCh, Bool.not_eq_true', Bool.not_eq_false] using h2)⟩
    · simp only [WP_seq, WP_reg, WP_skip, WP_exit, WP_ret, WP_cond, WP_block, WP_regD, chkQ_normal, frz_nil, frz_cons, frz1_s, frz1_ptr, frz1_agg, frz1_func, frz1_st, thenQ_normal, thenQ_ret, thenQ_exit, blkQ_normal, blkQ_ret, blkQ_exit, nextQ_normal, nextQ_ret, nextQ_exit, Fin_ret, Fin_normal, FinR_ret, FinR_normal, FinF, FinE_ret, FinE_normal, contQ_normal, contQ_ret, contQ_exit,
  WS_nil, WS_set, WS_tick, WS_need, WS_needG, WS_act, WG_nil, WG_cons, WB_call, WB_callv, vals_nil, vals_cons, valsX_nil, valsX_cons, WB_box, WB_alloc, WB_store, WB_conv, WB_app, WB_mkm, WB_mupd, WB_mks, rows1, rows0, row1_s, WX_some, WX_gd, bnd_some, bnd_none, bnd_gd, if_gd, if_some, gd_True, evX_x, evX_op, evX_pick, evS_nil, evS_cons, evO_load, evO_chk, evO_bin, evO_un, evO_sl, evO_fa, evO_fv, evO_ia, evO_iv, evO_look, evO_ta, evO_ext,
  evO_len, evO_mx, evO_ifc, evO_mkf, evO_build, evO_convI, evO_convS, valX_t, valX_c, over_nil, over_cons, upd_at, set_at, putT, pick_ss, pick_sg, pick_gs, pick_gg, pick_bool, pick_int, pick_str, pick_and, pick_or, asB_bool, indexV_str, bounds_lh, bounds_h, bounds_l, bounds_n, slice_str,
  add_str, len_sv, len_slice, len_nils, len_str, fa_eptr, fa_ptr, load_eptr, load_ptr, load_aptr, loadH_map, len_hsl, lenH_sarr, ia_hsl, iaH_sarr, conv_bytes, List.length_map, u8_default, loadB_box, loadP_fs, loadP_ts, loadS_f, loadS_t, store_ptr, storeB_st, storeB_s, box_st, setCells, List.set_cons_zero, List.set_cons_succ, set_set, eq_self, resM, packR, enter, List.getD_cons_zero, List.getD_cons_succ, List.getD_nil, reduceIte, Nat.reduceEqDiff, Nat.reduceAdd, Nat.reduceLeDiff, Nat.reduceLT, Nat.add_left_cancel_iff, Nat.zero_add, Nat.add_zero, bi_add, bi_sub, bi_mul, bi_quo, bi_rem, bi_eql, bi_neq, bi_lss, bi_leq, bi_gtr, bi_geq, bs_eql, bs_neq, bs_lss, bb_eql, bb_neq, un_not, un_neg, valM,
  List.getElem?_cons_zero, List.getElem?_cons_succ, List.length_cons, List.length_nil, List.drop_succ_cons, List.drop_zero, List.take_succ_cons, List.take_zero, own_s, and_true, true_and, and_self, or_true, true_or, implies_true, Int.natCast_nonneg, Int.toNat_natCast, beq_true, beq_false, Bool.not_true, Bool.not_false, Bool.true_eq_false, Bool.false_eq_true, Bool.true_and, Bool.false_and, Bool.and_true, Bool.and_false, Bool.true_or, Bool.false_or, Bool.or_true, Bool.or_false, List.all_nil, h0, h3, Int.ofNat_lt, hlt, decide_false]
      have : vname s = true := by
        unfold vname
        rw [decide_eq_true (by omega), all_end hlt hall]
        rfl
      rw [this]
theorem t13 (s : List UInt8) (hs : s.length ≤ 1073741824) : calL EE 13 [.str s] [] = some (.ret (.bool (vname s)), []) := by
  refine fn_ok f13 (by simp) ?_
  unfold c13
  simp only [WP_seq, WP_reg, WP_skip, WP_exit, WP_ret, WP_cond, WP_block, WP_regD, chkQ_normal, frz_nil, frz_cons, frz1_s, frz1_ptr, frz1_agg, frz1_func, frz1_st, thenQ_normal, thenQ_ret, thenQ_exit, blkQ_normal, blkQ_ret, blkQ_exit, nextQ_normal, nextQ_ret, nextQ_exit, Fin_ret, Fin_normal, FinR_ret, FinR_normal, FinF, FinE_ret, FinE_normal, contQ_normal, contQ_ret, contQ_exit,
  WS_nil, WS_set, WS_tick, WS_need, WS_needG, WS_act, WG_nil, WG_cons, WB_call, WB_callv, vals_nil, vals_cons, valsX_nil, valsX_cons, WB_box, WB_alloc, WB_store, WB_conv, WB_app, WB_mkm, WB_mupd, WB_mks, rows1, rows0, row1_s, WX_some, WX_gd, bnd_some, bnd_none, bnd_gd, if_gd, if_some, gd_True, evX_x, evX_op, evX_pick, evS_nil, evS_cons, evO_load, evO_chk, evO_bin, evO_un, evO_sl, evO_fa, evO_fv, evO_ia, evO_iv, evO_look, evO_ta, evO_ext,
  evO_len, evO_mx, evO_ifc, evO_mkf, evO_build, evO_convI, evO_convS, valX_t, valX_c, over_nil, over_cons, upd_at, set_at, putT, pick_ss, pick_sg, pick_gs, pick_gg, pick_bool, pick_int, pick_str, pick_and, pick_or, asB_bool, indexV_str, bounds_lh, bounds_h, bounds_l, bounds_n, slice_str,
  add_str, len_sv, len_slice, len_nils, len_str, fa_eptr, fa_ptr, load_eptr, load_ptr, load_aptr, loadH_map, len_hsl, lenH_sarr, ia_hsl, iaH_sarr, conv_bytes, List.length_map, u8_default, loadB_box, loadP_fs, loadP_ts, loadS_f, loadS_t, store_ptr, storeB_st, storeB_s, box_st, setCells, List.set_cons_zero, List.set_cons_succ, set_set, eq_self, resM, packR, enter, List.getD_cons_zero, List.getD_cons_succ, List.getD_nil, reduceIte, Nat.reduceEqDiff, Nat.reduceAdd, Nat.reduceLeDiff, Nat.reduceLT, Nat.add_left_cancel_iff, Nat.zero_add, Nat.add_zero, bi_add, bi_sub, bi_mul, bi_quo, bi_rem, bi_eql, bi_neq, bi_lss, bi_leq, bi_gtr, bi_geq, bs_eql, bs_neq, bs_lss, bb_eql, bb_neq, un_not, un_neg, valM,
  List.getElem?_cons_zero, List.getElem?_cons_succ, List.length_cons, List.length_nil, List.drop_succ_cons, List.drop_zero, List.take_succ_cons, List.take_zero, own_s, and_true, true_and, and_self, or_true, true_or, implies_true, Int.natCast_nonneg, Int.toNat_natCast, beq_true, beq_false, Bool.not_true, Bool.not_false, Bool.true_eq_false, Bool.false_eq_true, Bool.true_and, Bool.false_and, Bool.and_true, Bool.and_false, Bool.true_or, Bool.false_or, Bool.or_true, Bool.or_false, List.all_nil]
  refine ⟨hs, ?_⟩
  refine WP_loop rfl (fun k T H n => ∃ j, j + k = s.length ∧ T 8 = .i64 j ∧ (s.take j).all okCh = true ∧ (0 < j → 97 ≤ ((s.getD 0 0).toNat : Int) ∧ ((s.getD 0 0).toNat : Int) ≤ 122) ∧ H 2 = .sarr 5 1 0 false false (s.map fun b => [.int .u8 b.toNat])) (k0 := s.length) ⟨0, by omega, rfl, rfl, by omega, rfl⟩ ?_
  rintro k T' H' n' hf ⟨j, hj, h3, hall, h1, hH⟩
  have h0 : T' 0 = .str s := hf 0 rfl
  have h6 : T' 6 = .hsl 2 0 0 s.length := hf 6 rfl
  have h7 : T' 7 = .i64 s.length := hf 7 rfl
  clear hf
  by_cases hlt : j < s.length
  · simp only [WP_seq, WP_reg, WP_skip, WP_exit, WP_ret, WP_cond, WP_block, WP_regD, chkQ_normal, frz_nil, frz_cons, frz1_s, frz1_ptr, frz1_agg, frz1_func, frz1_st, thenQ_normal, thenQ_ret, thenQ_exit, blkQ_normal, blkQ_ret, blkQ_exit, nextQ_normal, nextQ_ret, nextQ_exit, Fin_ret, Fin_normal, FinR_ret, FinR_normal, FinF, FinE_ret, FinE_normal, contQ_normal, contQ_ret, contQ_exit,
  WS_nil, WS_set, WS_tick, WS_need, WS_needG, WS_act, WG_nil, WG_cons, WB_call, WB_callv, vals_nil, vals_cons, valsX_nil, valsX_cons, WB_box, WB_alloc, WB_store, WB_conv, WB_app, WB_mkm, WB_mupd, WB_mks, rows1, rows0, row1_s, WX_some, WX_gd, bnd_some, bnd_none, bnd_gd, if_gd, if_some, gd_True, evX_x, evX_op, evX_pick, evS_nil, evS_cons, evO_load, evO_chk, evO_bin, evO_un, evO_sl, evO_fa, evO_fv, evO_ia, evO_iv, evO_look, evO_ta, evO_ext,
  evO_len, evO_mx, evO_ifc, evO_mkf, evO_build, evO_convI, evO_convS, valX_t, valX_c, over_nil, over_cons, upd_at, set_at, putT, pick_ss, pick_sg, pick_gs, pick_gg, pick_bool, pick_int, pick_str, pick_and, pick_or, asB_bool, indexV_str, bounds_lh, bounds_h, bounds_l, bounds_n, slice_str,
  add_str, len_sv, len_slice, len_nils, len_str, fa_eptr, fa_ptr, load_eptr, load_ptr, load_aptr, loadH_map, len_hsl, lenH_sarr, ia_hsl, iaH_sarr, conv_bytes, List.length_map, u8_default, loadB_box, loadP_fs, loadP_ts, loadS_f, loadS_t, store_ptr, storeB_st, storeB_s, box_st, setCells, List.set_cons_zero, List.set_cons_succ, set_set, eq_self, resM, packR, enter, List.getD_cons_zero, List.getD_cons_succ, List.getD_nil, reduceIte, Nat.reduceEqDiff, Nat.reduceAdd, Nat.reduceLeDiff, Nat.reduceLT, Nat.add_left_cancel_iff, Nat.zero_add, Nat.add_zero, bi_add, bi_sub, bi_mul, bi_quo, bi_rem, bi_eql, bi_neq, bi_lss, bi_leq, bi_gtr, bi_geq, bs_eql, bs_neq, bs_lss, bb_eql, bb_neq, un_not, un_neg, valM,
  List.getElem?_cons_zero, List.getElem?_cons_succ, List.length_cons, List.length_nil, List.drop_succ_cons, List.drop_zero, List.take_succ_cons, List.take_zero, own_s, and_true, true_and, and_self, or_true, true_or, implies_true, Int.natCast_nonneg, Int.toNat_natCast, beq_true, beq_false, Bool.not_true, Bool.not_false, Bool.true_eq_false, Bool.false_eq_true, Bool.true_and, Bool.false_and, Bool.and_true, Bool.and_false, Bool.true_or, Bool.false_or, Bool.or_true, Bool.or_false, List.all_nil, h0, h3, h6, h7, hH, Int.ofNat_lt, hlt, wrap_succ (show j < 4611686018427387904 by omega), decide_true]
    refine ⟨Nat.le_refl _, ?_⟩
    split
    · rename_i h2
      simp only [Bool.and_eq_true, decide_eq_true_eq] at h2
      refine ⟨k - 1, by omega, j + 1, by omega, rfl, all_next 0 hlt hall ?_, fun _ => ?_⟩
      · simp only [okCh, Bool.or_eq_true, Bool.and_eq_true, decide_eq_true_eq]; omega
      · by_cases hz : j = 0
        · subst hz; exact h2
        · exact h1 (by omega)
    · rename_i h2
      split
      · rename_i h4
        simp only [Bool.and_eq_true, Bool.or_eq_true, decide_eq_true_eq] at h4
        refine ⟨k - 1, by omega, j + 1, by omega, rfl, all_next 0 hlt hall ?_, fun _ => h1 (by omega)⟩
        simp only [okCh, Bool.or_eq_true, Bool.and_eq_true, decide_eq_true_eq]; omega
      · rename_i h4
        simp only [Bool.and_eq_true, Bool.or_eq_true, decide_eq_true_eq] at h2 h4
        have : vname s = false := by
          unfold vname
          by_cases hz : j = 0
          · subst hz
            rw [decide_eq_false (by omega)]
            rfl
          · rw [all_not 0 hlt, Bool.and_false]
            rw [Bool.eq_false_iff]
            simp only [okCh, ne_eq, Bool.or_eq_true, Bool.and_eq_true, decide_eq_true_eq]; omega
        rw [this]
  · simp only [WP_seq, WP_reg, WP_skip, WP_exit, WP_ret, WP_cond, WP_block, WP_regD, chkQ_normal, frz_nil, frz_cons, frz1_s, frz1_ptr, frz1_agg, frz1_func, frz1_st, thenQ_normal, thenQ_ret, thenQ_exit, blkQ_normal, blkQ_ret, blkQ_exit, nextQ_normal, nextQ_ret, nextQ_exit, Fin_ret, Fin_normal, FinR_ret, FinR_normal, FinF, FinE_ret, FinE_normal, contQ_normal, contQ_ret, contQ_exit,
  WS_nil, WS_set, WS_tick, WS_need, WS_needG, WS_act, WG_nil, WG_cons, WB_call, WB_callv, vals_nil, vals_cons, valsX_nil, valsX_cons, WB_box, WB_alloc, WB_store, WB_conv, WB_app, WB_mkm, WB_mupd, WB_mks, rows1, rows0, row1_s, WX_some, WX_gd, bnd_some, bnd_none, bnd_gd, if_gd, if_some, gd_True, evX_x, evX_op, evX_pick, evS_nil, evS_cons, evO_load, evO_chk, evO_bin, evO_un, evO_sl, evO_fa, evO_fv, evO_ia, evO_iv, evO_look, evO_ta, evO_ext,
  evO_len, evO_mx, evO_ifc, evO_mkf, evO_build, evO_convI, evO_convS, valX_t, valX_c, over_nil, over_cons, upd_at, set_at, putT, pick_ss, pick_sg, pick_gs, pick_gg, pick_bool, pick_int, pick_str, pick_and, pick_or, asB_bool, indexV_str, bounds_lh, bounds_h, bounds_l, bounds_n, slice_str,
  add_str, len_sv, len_slice, len_nils, len_str, fa_eptr, fa_ptr, load_eptr, load_ptr, load_aptr, loadH_map, len_hsl, lenH_sarr, ia_hsl, iaH_sarr, conv_bytes, List.length_map, u8_default, loadB_box, loadP_fs, loadP_ts, loadS_f, loadS_t, store_ptr, storeB_st, storeB_s, box_st, setCells, List.set_cons_zero, List.set_cons_succ, set_set, eq_self, resM, packR, enter, List.getD_cons_zero, List.getD_cons_succ, List.getD_nil, reduceIte, Nat.reduceEqDiff, Nat.reduceAdd, Nat.reduceLeDiff, Nat.reduceLT, Nat.add_left_cancel_iff, Nat.zero_add, Nat.add_zero, bi_add, bi_sub, bi_mul, bi_quo, bi_rem, bi_eql, bi_neq, bi_lss, bi_leq, bi_gtr, bi_geq, bs_eql, bs_neq, bs_lss, bb_eql, bb_neq, un_not, un_neg, valM,
  List.getElem?_cons_zero, List.getElem?_cons_succ, List.length_cons, List.length_nil, List.drop_succ_cons, List.drop_zero, List.take_succ_cons, List.take_zero, own_s, and_true, true_and, and_self, or_true, true_or, implies_true, Int.natCast_nonneg, Int.toNat_natCast, beq_true, beq_false, Bool.not_true, Bool.not_false, Bool.true_eq_false, Bool.false_eq_true, Bool.true_and, Bool.false_and, Bool.and_true, Bool.and_false, Bool.true_or, Bool.false_or, Bool.or_true, Bool.or_false, List.all_nil, h0, h3, h6, h7, hH, Int.ofNat_lt, hlt, decide_false]
    have : (decide (1 ≤ (s.length : Int)) && decide ((s.length : Int) ≤ 31)) = vname s := by
      unfold vname
      rw [all_end hlt hall, Bool.and_true, Bool.eq_iff_iff]
      simp only [Bool.and_eq_true, decide_eq_true_eq]
      by_cases hz : 0 < j
      · have := h1 hz; omega
      · omega
    rw [this]
end Go.Vm
