/- Small catalogs. -/
import Derived.Test.YtfgkhgkgaedcmaaCaB
set_option linter.unusedVariables false
set_option linter.unusedSimpArgs false
set_option maxRecDepth 100000
namespace Go.Vm

theorem ia_tab {s : Slc Tab} {H : Ob} {k : IntKind} {i : Int} : indexAM (.sl 5) H (.s (s.sv Tab.row)) (.s (.int k i)) = gd (0 ≤ i ∧ i < s.l.length) (.eptr (s.l.map Tab.row) i.toNat 0) := ia_sv (fun _ => rfl) (by decide)
theorem ia_col {s : Slc Col} {H : Ob} {k : IntKind} {i : Int} : indexAM (.sl 2) H (.s (s.sv Col.row)) (.s (.int k i)) = gd (0 ≤ i ∧ i < s.l.length) (.eptr (s.l.map Col.row) i.toNat 0) := ia_sv (fun _ => rfl) (by decide)
theorem ia_idx {s : Slc Idx} {H : Ob} {k : IntKind} {i : Int} : indexAM (.sl 3) H (.s (s.sv Idx.row)) (.s (.int k i)) = gd (0 ≤ i ∧ i < s.l.length) (.eptr (s.l.map Idx.row) i.toNat 0) := ia_sv (fun _ => rfl) (by decide)
theorem ia_viw {s : Slc Viw} {H : Ob} {k : IntKind} {i : Int} : indexAM (.sl 4) H (.s (s.sv Viw.row)) (.s (.int k i)) = gd (0 ≤ i ∧ i < s.l.length) (.eptr (s.l.map Viw.row) i.toNat 0) := ia_sv (fun _ => rfl) (by decide)
theorem ia_int {s : Slc Int} {H : Ob} {k : IntKind} {i : Int} : indexAM (.sl 1) H (.s (s.sv intRow)) (.s (.int k i)) = gd (0 ≤ i ∧ i < s.l.length) (.eptr (s.l.map intRow) i.toNat 0) := ia_sv (fun _ => rfl) (by decide)
theorem ia_str {s : Slc (List UInt8)} {H : Ob} {k : IntKind} {i : Int} : indexAM (.sl 1) H (.s (s.sv strRow)) (.s (.int k i)) = gd (0 ≤ i ∧ i < s.l.length) (.eptr (s.l.map strRow) i.toNat 0) := ia_sv (fun _ => rfl) (by decide)

def FewX (x : Idx) : Prop := x.name.length ≤ 100 ∧ x.cols.l.length ≤ 20
structure FewT (t : Tab) : Prop where
  name : t.name.length ≤ 100
  cols : t.cols.l.length ≤ 20
  key : t.key.l.length ≤ 20
  idx : t.idx.l.length ≤ 70
  col : ∀ j, j < t.cols.l.length → (t.cols.l.getD j default).name.length ≤ 100
  ix : ∀ j, j < t.idx.l.length → FewX (t.idx.l.getD j default)
structure FewC (c : Cat) : Prop where
  tabs : c.tabs.l.length ≤ 70
  views : c.views.l.length ≤ 70
  tab : ∀ j, j < c.tabs.l.length → FewT (c.tabs.l.getD j default)
  view : ∀ j, j < c.views.l.length → (c.views.l.getD j default).name.length ≤ 100 ∧ (c.views.l.getD j default).text.length ≤ 20000

theorem t10 (c : Cat) : ∃ v, calL EE 10 [.st c.row] [] = some (.ret v, []) ∧ ∃ b, v = .bool b ∧ (b = true → FewC c) := by
  refine fn_ex f10 (by simp) ?_
  unfold c10
  simp only [WP_seq, WP_reg, WP_skip, WP_exit, WP_ret, WP_cond, WP_block, WP_regD, chkQ_normal, frz_nil, frz_cons, frz1_s, frz1_ptr, frz1_agg, frz1_func, frz1_st, thenQ_normal, thenQ_ret, thenQ_exit, blkQ_normal, blkQ_ret, blkQ_exit, nextQ_normal, nextQ_ret, nextQ_exit, Fin_ret, Fin_normal, FinR_ret, FinR_normal, FinF, FinE_ret, FinE_normal, contQ_normal, contQ_ret, contQ_exit,
  WS_nil, WS_set, WS_tick, WS_need, WS_needG, WS_act, WG_nil, WG_cons, WB_call, WB_callv, vals_nil, vals_cons, valsX_nil, valsX_cons, WB_box, WB_alloc, WB_store, WB_conv, WB_app, WB_mkm, WB_mupd, WB_mks, rows1, rows0, row1_s, WX_some, WX_gd, bnd_some, bnd_none, bnd_gd, if_gd, if_some, gd_True, evX_x, evX_op, evX_pick, evS_nil, evS_cons, evO_load, evO_chk, evO_bin, evO_un, evO_sl, evO_fa, evO_fv, evO_ia, evO_iv, evO_look, evO_ta, evO_ext,
  evO_len, evO_mx, evO_ifc, evO_mkf, evO_build, evO_convI, evO_convS, valX_t, valX_c, over_nil, over_cons, upd_at, set_at, putT, pick_ss, pick_sg, pick_gs, pick_gg, pick_bool, pick_int, pick_str, pick_and, pick_or, asB_bool, indexV_str, bounds_lh, bounds_h, bounds_l, bounds_n, slice_str,
  add_str, len_sv, len_slice, len_nils, len_str, fa_eptr, fa_ptr, load_eptr, load_ptr, load_aptr, loadH_map, len_hsl, lenH_sarr, ia_hsl, iaH_sarr, conv_bytes, List.length_map, u8_default, loadB_box, loadP_fs, loadP_ts, loadS_f, loadS_t, store_ptr, storeB_st, storeB_s, box_st, setCells, List.set_cons_zero, List.set_cons_succ, set_set, eq_self, resM, packR, enter, List.getD_cons_zero, List.getD_cons_succ, List.getD_nil, reduceIte, Nat.reduceEqDiff, Nat.reduceAdd, Nat.reduceLeDiff, Nat.reduceLT, Nat.add_left_cancel_iff, Nat.zero_add, Nat.add_zero, bi_add, bi_sub, bi_mul, bi_quo, bi_rem, bi_eql, bi_neq, bi_lss, bi_leq, bi_gtr, bi_geq, bs_eql, bs_neq, bs_lss, bb_eql, bb_neq, un_not, un_neg, valM,
  List.getElem?_cons_zero, List.getElem?_cons_succ, List.length_cons, List.length_nil, List.drop_succ_cons, List.drop_zero, List.take_succ_cons, List.take_zero, own_s, and_true, true_and, and_self, or_true, true_or, implies_true, Int.natCast_nonneg, Int.toNat_natCast, beq_true, beq_false, Bool.not_true, Bool.not_false, Bool.true_eq_false, Bool.false_eq_true, Bool.true_and, Bool.false_and, Bool.and_true, Bool.and_false, Bool.true_or, Bool.false_or, Bool.or_true, Bool.or_false, List.all_nil, Cat.row]
  split
  · exact ⟨false, rfl, fun h => by cases h⟩
  · rename_i h1
    simp only [Bool.or_eq_true, decide_eq_true_eq, not_or] at h1
    refine WP_scan rfl 3 c.tabs.l.length (fun j => FewT (c.tabs.l.getD j default)) (fun _ T H n => H 0 = .box 25 (c.row.map .s) ∧ 1 ≤ n) rfl ⟨rfl, by simp⟩ ?_ ?_
    · rintro j T' H' n' hlt hf hi ⟨hH, hn⟩ hp
      have hb : T' 1 = .ptr 0 0 := hf 1 rfl
      clear hf hp
      simp only [WP_seq, WP_reg, WP_skip, WP_exit, WP_ret, WP_cond, WP_block, WP_regD, chkQ_normal, frz_nil, frz_cons, frz1_s, frz1_ptr, frz1_agg, frz1_func, frz1_st, thenQ_normal, thenQ_ret, thenQ_exit, blkQ_normal, blkQ_ret, blkQ_exit, nextQ_normal, nextQ_ret, nextQ_exit, Fin_ret, Fin_normal, FinR_ret, FinR_normal, FinF, FinE_ret, FinE_normal, contQ_normal, contQ_ret, contQ_exit,
  WS_nil, WS_set, WS_tick, WS_need, WS_needG, WS_act, WG_nil, WG_cons, WB_call, WB_callv, vals_nil, vals_cons, valsX_nil, valsX_cons, WB_box, WB_alloc, WB_store, WB_conv, WB_app, WB_mkm, WB_mupd, WB_mks, rows1, rows0, row1_s, WX_some, WX_gd, bnd_some, bnd_none, bnd_gd, if_gd, if_some, gd_True, evX_x, evX_op, evX_pick, evS_nil, evS_cons, evO_load, evO_chk, evO_bin, evO_un, evO_sl, evO_fa, evO_fv, evO_ia, evO_iv, evO_look, evO_ta, evO_ext,
  evO_len, evO_mx, evO_ifc, evO_mkf, evO_build, evO_convI, evO_convS, valX_t, valX_c, over_nil, over_cons, upd_at, set_at, putT, pick_ss, pick_sg, pick_gs, pick_gg, pick_bool, pick_int, pick_str, pick_and, pick_or, asB_bool, indexV_str, bounds_lh, bounds_h, bounds_l, bounds_n, slice_str,
  add_str, len_sv, len_slice, len_nils, len_str, fa_eptr, fa_ptr, load_eptr, load_ptr, load_aptr, loadH_map, len_hsl, lenH_sarr, ia_hsl, iaH_sarr, conv_bytes, List.length_map, u8_default, loadB_box, loadP_fs, loadP_ts, loadS_f, loadS_t, store_ptr, storeB_st, storeB_s, box_st, setCells, List.set_cons_zero, List.set_cons_succ, set_set, eq_self, resM, packR, enter, List.getD_cons_zero, List.getD_cons_succ, List.getD_nil, reduceIte, Nat.reduceEqDiff, Nat.reduceAdd, Nat.reduceLeDiff, Nat.reduceLT, Nat.add_left_cancel_iff, Nat.zero_add, Nat.add_zero, bi_add, bi_sub, bi_mul, bi_quo, bi_rem, bi_eql, bi_neq, bi_lss, bi_leq, bi_gtr, bi_geq, bs_eql, bs_neq, bs_lss, bb_eql, bb_neq, un_not, un_neg, valM,
  List.getElem?_cons_zero, List.getElem?_cons_succ, List.length_cons, List.length_nil, List.drop_succ_cons, List.drop_zero, List.take_succ_cons, List.take_zero, own_s, and_true, true_and, and_self, or_true, true_or, implies_true, Int.natCast_nonneg, Int.toNat_natCast, beq_true, beq_false, Bool.not_true, Bool.not_false, Bool.true_eq_false, Bool.false_eq_true, Bool.true_and, Bool.false_and, Bool.and_true, Bool.and_false, Bool.true_or, Bool.false_or, Bool.or_true, Bool.or_false, List.all_nil, hb, hi, hH, Int.ofNat_lt, hlt, wrap_succ (show j < 4611686018427387904 by omega), decide_true, ia_tab, Tab.row, Cat.row]
      generalize ht : c.tabs.l.getD j default = t
      split
      · exact ⟨false, rfl, fun h => by cases h⟩
      · rename_i h2
        simp only [Bool.or_eq_true, decide_eq_true_eq, not_or] at h2
        generalize hH1 : H'.set _ _ = H1
        have hA : H1 0 = .box 25 (c.row.map .s) := by rw [← hH1, set_at, if_neg (by omega), hH]
        have hB : H1 (n' + 5 + 5) = .box 34 (t.row.map .s) := by rw [← hH1, set_at, if_pos rfl]; rfl
        clear hH1 hH
        refine WP_scan rfl 5 t.cols.l.length (fun j => (t.cols.l.getD j default).name.length ≤ 100) (fun _ T H n => H = H1 ∧ n' ≤ n) rfl ⟨rfl, by omega⟩ ?_ ?_
        · rintro j2 T2 H2 n2 hlt2 hf2 hi2 ⟨rfl, hn2⟩ hp2
          have h4 : T2 4 = .ptr (n' + 5 + 5) 0 := hf2 4 rfl
          clear hf2 hp2
          simp only [WP_seq, WP_reg, WP_skip, WP_exit, WP_ret, WP_cond, WP_block, WP_regD, chkQ_normal, frz_nil, frz_cons, frz1_s, frz1_ptr, frz1_agg, frz1_func, frz1_st, thenQ_normal, thenQ_ret, thenQ_exit, blkQ_normal, blkQ_ret, blkQ_exit, nextQ_normal, nextQ_ret, nextQ_exit, Fin_ret, Fin_normal, FinR_ret, FinR_normal, FinF, FinE_ret, FinE_normal, contQ_normal, contQ_ret, contQ_exit,
  WS_nil, WS_set, WS_tick, WS_need, WS_needG, WS_act, WG_nil, WG_cons, WB_call, WB_callv, vals_nil, vals_cons, valsX_nil, valsX_cons, WB_box, WB_alloc, WB_store, WB_conv, WB_app, WB_mkm, WB_mupd, WB_mks, rows1, rows0, row1_s, WX_some, WX_gd, bnd_some, bnd_none, bnd_gd, if_gd, if_some, gd_True, evX_x, evX_op, evX_pick, evS_nil, evS_cons, evO_load, evO_chk, evO_bin, evO_un, evO_sl, evO_fa, evO_fv, evO_ia, evO_iv, evO_look, evO_ta, evO_ext,
  evO_len, evO_mx, evO_ifc, evO_mkf, evO_build, evO_convI, evO_convS, valX_t, valX_c, over_nil, over_cons, upd_at, set_at, putT, pick_ss, pick_sg, pick_gs, pick_gg, pick_bool, pick_int, pick_str, pick_and, pick_or, asB_bool, indexV_str, bounds_lh, bounds_h, bounds_l, bounds_n, slice_str,
  add_str, len_sv, len_slice, len_nils, len_str, fa_eptr, fa_ptr, load_eptr, load_ptr, load_aptr, loadH_map, len_hsl, lenH_sarr, ia_hsl, iaH_sarr, conv_bytes, List.length_map, u8_default, loadB_box, loadP_fs, loadP_ts, loadS_f, loadS_t, store_ptr, storeB_st, storeB_s, box_st, setCells, List.set_cons_zero, List.set_cons_succ, set_set, eq_self, resM, packR, enter, List.getD_cons_zero, List.getD_cons_succ, List.getD_nil, reduceIte, Nat.reduceEqDiff, Nat.reduceAdd, Nat.reduceLeDiff, Nat.reduceLT, Nat.add_left_cancel_iff, Nat.zero_add, Nat.add_zero, bi_add, bi_sub, bi_mul, bi_quo, bi_rem, bi_eql, bi_neq, bi_lss, bi_leq, bi_gtr, bi_geq, bs_eql, bs_neq, bs_lss, bb_eql, bb_neq, un_not, un_neg, valM,
  List.getElem?_cons_zero, List.getElem?_cons_succ, List.length_cons, List.length_nil, List.drop_succ_cons, List.drop_zero, List.take_succ_cons, List.take_zero, own_s, and_true, true_and, and_self, or_true, true_or, implies_true, Int.natCast_nonneg, Int.toNat_natCast, beq_true, beq_false, Bool.not_true, Bool.not_false, Bool.true_eq_false, Bool.false_eq_true, Bool.true_and, Bool.false_and, Bool.and_true, Bool.and_false, Bool.true_or, Bool.false_or, Bool.or_true, Bool.or_false, List.all_nil, h4, hi2, hB, Int.ofNat_lt, hlt2, wrap_succ (show j2 < 4611686018427387904 by omega), decide_true, ia_col, Tab.row, Col.row]
          split
          · exact ⟨false, rfl, fun h => by cases h⟩
          · rename_i h3
            simp only [decide_eq_true_eq] at h3
            exact ⟨by omega, by omega⟩
        · rintro T2 H2 n2 hf2 hi2 ⟨rfl, hn2⟩ hp2
          have h4 : T2 4 = .ptr (n' + 5 + 5) 0 := hf2 4 rfl
          have h1' : T2 1 = .ptr 0 0 := (hf2 1 rfl).trans hb
          have h3' : T2 3 = .i64 j := (hf2 3 rfl).trans hi
          clear hf2
          simp only [WP_seq, WP_reg, WP_skip, WP_exit, WP_ret, WP_cond, WP_block, WP_regD, chkQ_normal, frz_nil, frz_cons, frz1_s, frz1_ptr, frz1_agg, frz1_func, frz1_st, thenQ_normal, thenQ_ret, thenQ_exit, blkQ_normal, blkQ_ret, blkQ_exit, nextQ_normal, nextQ_ret, nextQ_exit, Fin_ret, Fin_normal, FinR_ret, FinR_normal, FinF, FinE_ret, FinE_normal, contQ_normal, contQ_ret, contQ_exit,
  WS_nil, WS_set, WS_tick, WS_need, WS_needG, WS_act, WG_nil, WG_cons, WB_call, WB_callv, vals_nil, vals_cons, valsX_nil, valsX_cons, WB_box, WB_alloc, WB_store, WB_conv, WB_app, WB_mkm, WB_mupd, WB_mks, rows1, rows0, row1_s, WX_some, WX_gd, bnd_some, bnd_none, bnd_gd, if_gd, if_some, gd_True, evX_x, evX_op, evX_pick, evS_nil, evS_cons, evO_load, evO_chk, evO_bin, evO_un, evO_sl, evO_fa, evO_fv, evO_ia, evO_iv, evO_look, evO_ta, evO_ext,
  evO_len, evO_mx, evO_ifc, evO_mkf, evO_build, evO_convI, evO_convS, valX_t, valX_c, over_nil, over_cons, upd_at, set_at, putT, pick_ss, pick_sg, pick_gs, pick_gg, pick_bool, pick_int, pick_str, pick_and, pick_or, asB_bool, indexV_str, bounds_lh, bounds_h, bounds_l, bounds_n, slice_str,
  add_str, len_sv, len_slice, len_nils, len_str, fa_eptr, fa_ptr, load_eptr, load_ptr, load_aptr, loadH_map, len_hsl, lenH_sarr, ia_hsl, iaH_sarr, conv_bytes, List.length_map, u8_default, loadB_box, loadP_fs, loadP_ts, loadS_f, loadS_t, store_ptr, storeB_st, storeB_s, box_st, setCells, List.set_cons_zero, List.set_cons_succ, set_set, eq_self, resM, packR, enter, List.getD_cons_zero, List.getD_cons_succ, List.getD_nil, reduceIte, Nat.reduceEqDiff, Nat.reduceAdd, Nat.reduceLeDiff, Nat.reduceLT, Nat.add_left_cancel_iff, Nat.zero_add, Nat.add_zero, bi_add, bi_sub, bi_mul, bi_quo, bi_rem, bi_eql, bi_neq, bi_lss, bi_leq, bi_gtr, bi_geq, bs_eql, bs_neq, bs_lss, bb_eql, bb_neq, un_not, un_neg, valM,
  List.getElem?_cons_zero, List.getElem?_cons_succ, List.length_cons, List.length_nil, List.drop_succ_cons, List.drop_zero, List.take_succ_cons, List.take_zero, own_s, and_true, true_and, and_self, or_true, true_or, implies_true, Int.natCast_nonneg, Int.toNat_natCast, beq_true, beq_false, Bool.not_true, Bool.not_false, Bool.true_eq_false, Bool.false_eq_true, Bool.true_and, Bool.false_and, Bool.and_true, Bool.and_false, Bool.true_or, Bool.false_or, Bool.or_true, Bool.or_false, List.all_nil, h4, hi2, hB, Int.lt_irrefl, decide_false, Tab.row]
          refine WP_scan rfl 6 t.idx.l.length (fun j => FewX (t.idx.l.getD j default)) (fun _ T H n => H = H2 ∧ n' ≤ n) rfl ⟨rfl, by omega⟩ ?_ ?_
          · rintro j3 T3 H3 n3 hlt3 hf3 hi3 ⟨rfl, hn3⟩ hp3
            have g4 : T3 4 = .ptr (n' + 5 + 5) 0 := (hf3 4 rfl).trans h4
            clear hf3 hp3
            simp only [WP_seq, WP_reg, WP_skip, WP_exit, WP_ret, WP_cond, WP_block, WP_regD, chkQ_normal, frz_nil, frz_cons, frz1_s, frz1_ptr, frz1_agg, frz1_func, frz1_st, thenQ_normal, thenQ_ret, thenQ_exit, blkQ_normal, blkQ_ret, blkQ_exit, nextQ_normal, nextQ_ret, nextQ_exit, Fin_ret, Fin_normal, FinR_ret, FinR_normal, FinF, FinE_ret, FinE_normal, contQ_normal, contQ_ret, contQ_exit,
  WS_nil, WS_set, WS_tick, WS_need, WS_needG, WS_act, WG_nil, WG_cons, WB_call, WB_callv, vals_nil, vals_cons, valsX_nil, valsX_cons, WB_box, WB_alloc, WB_store, WB_conv, WB_app, WB_mkm, WB_mupd, WB_mks, rows1, rows0, row1_s, WX_some, WX_gd, bnd_some, bnd_none, bnd_gd, if_gd, if_some, gd_True, evX_x, evX_op, evX_pick, evS_nil, evS_cons, evO_load, evO_chk, evO_bin, evO_un, evO_sl, evO_fa, evO_fv, evO_ia, evO_iv, evO_look, evO_ta, evO_ext,
  evO_len, evO_mx, evO_ifc, evO_mkf, evO_build, evO_convI, evO_convS, valX_t, valX_c, over_nil, over_cons, upd_at, set_at, putT, pick_ss, pick_sg, pick_gs, pick_gg, pick_bool, pick_int, pick_str, pick_and, pick_or, asB_bool, indexV_str, bounds_lh, bounds_h, bounds_l, bounds_n, slice_str,
  add_str, len_sv, len_slice, len_nils, len_str, fa_eptr, fa_ptr, load_eptr, load_ptr, load_aptr, loadH_map, len_hsl, lenH_sarr, ia_hsl, iaH_sarr, conv_bytes, List.length_map, u8_default, loadB_box, loadP_fs, loadP_ts, loadS_f, loadS_t, store_ptr, storeB_st, storeB_s, box_st, setCells, List.set_cons_zero, List.set_cons_succ, set_set, eq_self, resM, packR, enter, List.getD_cons_zero, List.getD_cons_succ, List.getD_nil, reduceIte, Nat.reduceEqDiff, Nat.reduceAdd, Nat.reduceLeDiff, Nat.reduceLT, Nat.add_left_cancel_iff, Nat.zero_add, Nat.add_zero, bi_add, bi_sub, bi_mul, bi_quo, bi_rem, bi_eql, bi_neq, bi_lss, bi_leq, bi_gtr, bi_geq, bs_eql, bs_neq, bs_lss, bb_eql, bb_neq, un_not, un_neg, valM,
  List.getElem?_cons_zero, List.getElem?_cons_succ, List.length_cons, List.length_nil, List.drop_succ_cons, List.drop_zero, List.take_succ_cons, List.take_zero, own_s, and_true, true_and, and_self, or_true, true_or, implies_true, Int.natCast_nonneg, Int.toNat_natCast, beq_true, beq_false, Bool.not_true, Bool.not_false, Bool.true_eq_false, Bool.false_eq_true, Bool.true_and, Bool.false_and, Bool.and_true, Bool.and_false, Bool.true_or, Bool.false_or, Bool.or_true, Bool.or_false, List.all_nil, g4, hi3, hB, Int.ofNat_lt, hlt3, wrap_succ (show j3 < 4611686018427387904 by omega), decide_true, ia_idx, Tab.row, Idx.row]
            split
            · exact ⟨false, rfl, fun h => by cases h⟩
            · rename_i h3
              simp only [Bool.or_eq_true, decide_eq_true_eq, not_or] at h3
              exact ⟨⟨by omega, by omega⟩, by omega⟩
          · rintro T3 H3 n3 hf3 hi3 ⟨rfl, hn3⟩ hp3
            have g4 : T3 4 = .ptr (n' + 5 + 5) 0 := (hf3 4 rfl).trans h4
            have g3 : T3 3 = .i64 j := (hf3 3 rfl).trans h3'
            clear hf3
            simp only [WP_seq, WP_reg, WP_skip, WP_exit, WP_ret, WP_cond, WP_block, WP_regD, chkQ_normal, frz_nil, frz_cons, frz1_s, frz1_ptr, frz1_agg, frz1_func, frz1_st, thenQ_normal, thenQ_ret, thenQ_exit, blkQ_normal, blkQ_ret, blkQ_exit, nextQ_normal, nextQ_ret, nextQ_exit, Fin_ret, Fin_normal, FinR_ret, FinR_normal, FinF, FinE_ret, FinE_normal, contQ_normal, contQ_ret, contQ_exit,
  WS_nil, WS_set, WS_tick, WS_need, WS_needG, WS_act, WG_nil, WG_cons, WB_call, WB_callv, vals_nil, vals_cons, valsX_nil, valsX_cons, WB_box, WB_alloc, WB_store, WB_conv, WB_app, WB_mkm, WB_mupd, WB_mks, rows1, rows0, row1_s, WX_some, WX_gd, bnd_some, bnd_none, bnd_gd, if_gd, if_some, gd_True, evX_x, evX_op, evX_pick, evS_nil, evS_cons, evO_load, evO_chk, evO_bin, evO_un, evO_sl, evO_fa, evO_fv, evO_ia, evO_iv, evO_look, evO_ta, evO_ext,
  evO_len, evO_mx, evO_ifc, evO_mkf, evO_build, evO_convI, evO_convS, valX_t, valX_c, over_nil, over_cons, upd_at, set_at, putT, pick_ss, pick_sg, pick_gs, pick_gg, pick_bool, pick_int, pick_str, pick_and, pick_or, asB_bool, indexV_str, bounds_lh, bounds_h, bounds_l, bounds_n, slice_str,
  add_str, len_sv, len_slice, len_nils, len_str, fa_eptr, fa_ptr, load_eptr, load_ptr, load_aptr, loadH_map, len_hsl, lenH_sarr, ia_hsl, iaH_sarr, conv_bytes, List.length_map, u8_default, loadB_box, loadP_fs, loadP_ts, loadS_f, loadS_t, store_ptr, storeB_st, storeB_s, box_st, setCells, List.set_cons_zero, List.set_cons_succ, set_set, eq_self, resM, packR, enter, List.getD_cons_zero, List.getD_cons_succ, List.getD_nil, reduceIte, Nat.reduceEqDiff, Nat.reduceAdd, Nat.reduceLeDiff, Nat.reduceLT, Nat.add_left_cancel_iff, Nat.zero_add, Nat.add_zero, bi_add, bi_sub, bi_mul, bi_quo, bi_rem, bi_eql, bi_neq, bi_lss, bi_leq, bi_gtr, bi_geq, bs_eql, bs_neq, bs_lss, bb_eql, bb_neq, un_not, un_neg, valM,
  List.getElem?_cons_zero, List.getElem?_cons_succ, List.length_cons, List.length_nil, List.drop_succ_cons, List.drop_zero, List.take_succ_cons, List.take_zero, own_s, and_true, true_and, and_self, or_true, true_or, implies_true, Int.natCast_nonneg, Int.toNat_natCast, beq_true, beq_false, Bool.not_true, Bool.not_false, Bool.true_eq_false, Bool.false_eq_true, Bool.true_and, Bool.false_and, Bool.and_true, Bool.and_false, Bool.true_or, Bool.false_or, Bool.or_true, Bool.or_false, List.all_nil, g4, hi3, g3, hB, Int.lt_irrefl, decide_false, Tab.row, wrap_succ (show j < 4611686018427387904 by omega)]
            exact ⟨by rw [ht]; exact ⟨by omega, by omega, by omega, by omega, hp2, hp3⟩, hA⟩
    · rintro T' H' n' hf hi ⟨hH, hn⟩ hp
      have hb : T' 1 = .ptr 0 0 := hf 1 rfl
      clear hf
      simp only [WP_seq, WP_reg, WP_skip, WP_exit, WP_ret, WP_cond, WP_block, WP_regD, chkQ_normal, frz_nil, frz_cons, frz1_s, frz1_ptr, frz1_agg, frz1_func, frz1_st, thenQ_normal, thenQ_ret, thenQ_exit, blkQ_normal, blkQ_ret, blkQ_exit, nextQ_normal, nextQ_ret, nextQ_exit, Fin_ret, Fin_normal, FinR_ret, FinR_normal, FinF, FinE_ret, FinE_normal, contQ_normal, contQ_ret, contQ_exit,
  WS_nil, WS_set, WS_tick, WS_need, WS_needG, WS_act, WG_nil, WG_cons, WB_call, WB_callv, vals_nil, vals_cons, valsX_nil, valsX_cons, WB_box, WB_alloc, WB_store, WB_conv, WB_app, WB_mkm, WB_mupd, WB_mks, rows1, rows0, row1_s, WX_some, WX_gd, bnd_some, bnd_none, bnd_gd, if_gd, if_some, gd_True, evX_x, evX_op, evX_pick, evS_nil, evS_cons, evO_load, evO_chk, evO_bin, evO_un, evO_sl, evO_fa, evO_fv, evO_ia, evO_iv, evO_look, evO_ta, evO_ext,
  evO_len, evO_mx, evO_ifc, evO_mkf, evO_build, evO_convI, evO_convS, valX_t, valX_c, over_nil, over_cons, upd_at, set_at, putT, pick_ss, pick_sg, pick_gs, pick_gg, pick_bool, pick_int, pick_str, pick_and, pick_or, asB_bool, indexV_str, bounds_lh, bounds_h, bounds_l, bounds_n, slice_str,
  add_str, len_sv, len_slice, len_nils, len_str, fa_eptr, fa_ptr, load_eptr, load_ptr, load_aptr, loadH_map, len_hsl, lenH_sarr, ia_hsl, iaH_sarr, conv_bytes, List.length_map, u8_default, loadB_box, loadP_fs, loadP_ts, loadS_f, loadS_t, store_ptr, storeB_st, storeB_s, box_st, setCells, List.set_cons_zero, List.set_cons_succ, set_set, eq_self, resM, packR, enter, List.getD_cons_zero, List.getD_cons_succ, List.getD_nil, reduceIte, Nat.reduceEqDiff, Nat.reduceAdd, Nat.reduceLeDiff, Nat.reduceLT, Nat.add_left_cancel_iff, Nat.zero_add, Nat.add_zero, bi_add, bi_sub, bi_mul, bi_quo, bi_rem, bi_eql, bi_neq, bi_lss, bi_leq, bi_gtr, bi_geq, bs_eql, bs_neq, bs_lss, bb_eql, bb_neq, un_not, un_neg, valM,
  List.getElem?_cons_zero, List.getElem?_cons_succ, List.length_cons, List.length_nil, List.drop_succ_cons, List.drop_zero, List.take_succ_cons, List.take_zero, own_s, and_true, true_and, and_self, or_true, true_or, implies_true, Int.natCast_nonneg, Int.toNat_natCast, beq_true, beq_false, Bool.not_true, Bool.not_false, Bool.true_eq_false, Bool.false_eq_true, Bool.true_and, Bool.false_and, Bool.and_true, Bool.and_false, Bool.true_or, Bool.false_or, Bool.or_true, Bool.or_false, List.all_nil, hb, hi, hH, Int.lt_irrefl, decide_false, Cat.row]
      refine WP_scan rfl 7 c.views.l.length (fun j => (c.views.l.getD j default).name.length ≤ 100 ∧ (c.views.l.getD j default).text.length ≤ 20000) (fun _ T H n => H = H') rfl rfl ?_ ?_
      · rintro j2 T2 H2 n2 hlt2 hf2 hi2 rfl hp2
        have h4 : T2 1 = .ptr 0 0 := (hf2 1 rfl).trans hb
        clear hf2 hp2
        simp only [WP_seq, WP_reg, WP_skip, WP_exit, WP_ret, WP_cond, WP_block, WP_regD, chkQ_normal, frz_nil, frz_cons, frz1_s, frz1_ptr, frz1_agg, frz1_func, frz1_st, thenQ_normal, thenQ_ret, thenQ_exit, blkQ_normal, blkQ_ret, blkQ_exit, nextQ_normal, nextQ_ret, nextQ_exit, Fin_ret, Fin_normal, FinR_ret, FinR_normal, FinF, FinE_ret, FinE_normal, contQ_normal, contQ_ret, contQ_exit,
  WS_nil, WS_set, WS_tick, WS_need, WS_needG, WS_act, WG_nil, WG_cons, WB_call, WB_callv, vals_nil, vals_cons, valsX_nil, valsX_cons, WB_box, WB_alloc, WB_store, WB_conv, WB_app, WB_mkm, WB_mupd, WB_mks, rows1, rows0, row1_s, WX_some, WX_gd, bnd_some, bnd_none, bnd_gd, if_gd, if_some, gd_True, evX_x, evX_op, evX_pick, evS_nil, evS_cons, evO_load, evO_chk, evO_bin, evO_un, evO_sl, evO_fa, evO_fv, evO_ia, evO_iv, evO_look, evO_ta, evO_ext,
  evO_len, evO_mx, evO_ifc, evO_mkf, evO_build, evO_convI, evO_convS, valX_t, valX_c, over_nil, over_cons, upd_at, set_at, putT, pick_ss, pick_sg, pick_gs, pick_gg, pick_bool, pick_int, pick_str, pick_and, pick_or, asB_bool, indexV_str, bounds_lh, bounds_h, bounds_l, bounds_n, slice_str,
  add_str, len_sv, len_slice, len_nils, len_str, fa_eptr, fa_ptr, load_eptr, load_ptr, load_aptr, loadH_map, len_hsl, lenH_sarr, ia_hsl, iaH_sarr, conv_bytes, List.length_map, u8_default, loadB_box, loadP_fs, loadP_ts, loadS_f, loadS_t, store_ptr, storeB_st, storeB_s, box_st, setCells, List.set_cons_zero, List.set_cons_succ, set_set, eq_self, resM, packR, enter, List.getD_cons_zero, List.getD_cons_succ, List.getD_nil, reduceIte, Nat.reduceEqDiff, Nat.reduceAdd, Nat.reduceLeDiff, Nat.reduceLT, Nat.add_left_cancel_iff, Nat.zero_add, Nat.add_zero, bi_add, bi_sub, bi_mul, bi_quo, bi_rem, bi_eql, bi_neq, bi_lss, bi_leq, bi_gtr, bi_geq, bs_eql, bs_neq, bs_lss, bb_eql, bb_neq, un_not, un_neg, valM,
  List.getElem?_cons_zero, List.getElem?_cons_succ, List.length_cons, List.length_nil, List.drop_succ_cons, List.drop_zero, List.take_succ_cons, List.take_zero, own_s, and_true, true_and, and_self, or_true, true_or, implies_true, Int.natCast_nonneg, Int.toNat_natCast, beq_true, beq_false, Bool.not_true, Bool.not_false, Bool.true_eq_false, Bool.false_eq_true, Bool.true_and, Bool.false_and, Bool.and_true, Bool.and_false, Bool.true_or, Bool.false_or, Bool.or_true, Bool.or_false, List.all_nil, h4, hi2, hH, Int.ofNat_lt, hlt2, wrap_succ (show j2 < 4611686018427387904 by omega), decide_true, ia_viw, Viw.row, Cat.row]
        split
        · exact ⟨false, rfl, fun h => by cases h⟩
        · rename_i h3
          simp only [Bool.or_eq_true, decide_eq_true_eq, not_or] at h3
          exact ⟨by omega, by omega⟩
      · rintro T2 H2 n2 hf2 hi2 rfl hp2
        have h4 : T2 1 = .ptr 0 0 := (hf2 1 rfl).trans hb
        clear hf2
        simp only [WP_seq, WP_reg, WP_skip, WP_exit, WP_ret, WP_cond, WP_block, WP_regD, chkQ_normal, frz_nil, frz_cons, frz1_s, frz1_ptr, frz1_agg, frz1_func, frz1_st, thenQ_normal, thenQ_ret, thenQ_exit, blkQ_normal, blkQ_ret, blkQ_exit, nextQ_normal, nextQ_ret, nextQ_exit, Fin_ret, Fin_normal, FinR_ret, FinR_normal, FinF, FinE_ret, FinE_normal, contQ_normal, contQ_ret, contQ_exit,
  WS_nil, WS_set, WS_tick, WS_need, WS_needG, WS_act, WG_nil, WG_cons, WB_call, WB_callv, vals_nil, vals_cons, valsX_nil, valsX_cons, WB_box, WB_alloc, WB_store, WB_conv, WB_app, WB_mkm, WB_mupd, WB_mks, rows1, rows0, row1_s, WX_some, WX_gd, bnd_some, bnd_none, bnd_gd, if_gd, if_some, gd_True, evX_x, evX_op, evX_pick, evS_nil, evS_cons, evO_load, evO_chk, evO_bin, evO_un, evO_sl, evO_fa, evO_fv, evO_ia, evO_iv, evO_look, evO_ta, evO_ext,
  evO_len, evO_mx, evO_ifc, evO_mkf, evO_build, evO_convI, evO_convS, valX_t, valX_c, over_nil, over_cons, upd_at, set_at, putT, pick_ss, pick_sg, pick_gs, pick_gg, pick_bool, pick_int, pick_str, pick_and, pick_or, asB_bool, indexV_str, bounds_lh, bounds_h, bounds_l, bounds_n, slice_str,
  add_str, len_sv, len_slice, len_nils, len_str, fa_eptr, fa_ptr, load_eptr, load_ptr, load_aptr, loadH_map, len_hsl, lenH_sarr, ia_hsl, iaH_sarr, conv_bytes, List.length_map, u8_default, loadB_box, loadP_fs, loadP_ts, loadS_f, loadS_t, store_ptr, storeB_st, storeB_s, box_st, setCells, List.set_cons_zero, List.set_cons_succ, set_set, eq_self, resM, packR, enter, List.getD_cons_zero, List.getD_cons_succ, List.getD_nil, reduceIte, Nat.reduceEqDiff, Nat.reduceAdd, Nat.reduceLeDiff, Nat.reduceLT, Nat.add_left_cancel_iff, Nat.zero_add, Nat.add_zero, bi_add, bi_sub, bi_mul, bi_quo, bi_rem, bi_eql, bi_neq, bi_lss, bi_leq, bi_gtr, bi_geq, bs_eql, bs_neq, bs_lss, bb_eql, bb_neq, un_not, un_neg, valM,
  List.getElem?_cons_zero, List.getElem?_cons_succ, List.length_cons, List.length_nil, List.drop_succ_cons, List.drop_zero, List.take_succ_cons, List.take_zero, own_s, and_true, true_and, and_self, or_true, true_or, implies_true, Int.natCast_nonneg, Int.toNat_natCast, beq_true, beq_false, Bool.not_true, Bool.not_false, Bool.true_eq_false, Bool.false_eq_true, Bool.true_and, Bool.false_and, Bool.and_true, Bool.and_false, Bool.true_or, Bool.false_or, Bool.or_true, Bool.or_false, List.all_nil, h4, hi2, hH, Int.lt_irrefl, decide_false, Cat.row]
        exact ⟨true, rfl, fun _ => ⟨by omega, by omega, hp, hp2⟩⟩
end Go.Vm
