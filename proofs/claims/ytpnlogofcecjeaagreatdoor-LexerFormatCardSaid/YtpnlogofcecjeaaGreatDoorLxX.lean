/- Chapter 23: the law LexerKeywords. -/
import Derived.Test.YtpnlogofcecjeaaGreatDoorLxN
set_option linter.unusedVariables false
set_option linter.unusedSimpArgs false
set_option maxRecDepth 100000
namespace Go.Vm
open Go
theorem refLower_ok (s : List UInt8) (hs : s.length ≤ 1000000) : calL EE 24 [.str s] [] = some (.ret (.str (s.map (mapB 65 97))), []) := by
  refine fn_ok f24 (by simp) ?_
  unfold c24
  simp only [go_sem, reduceIte, Nat.reduceEqDiff, Nat.reduceAdd, Nat.reduceLeDiff, Nat.reduceLT, conv_bytes]
  refine ⟨by omega, ?_⟩
  refine WP_scan rfl 4 s.length (fun _ => True) (fun j T H _ => H 2 = .sarr 5 1 0 false false (((s.take j).map (mapB 65 97) ++ s.drop j).map bR)) rfl rfl ?_ ?_
  · rintro j T' H' n' hlt hk hi hH _
    have h3 : T' 3 = .hsl 2 0 0 s.length := hk 3 rfl
    clear hk
    have hlen : ((s.take j).map (mapB 65 97) ++ s.drop j).length = s.length := by
      rw [List.length_append, List.length_map, List.length_take, List.length_drop]; omega
    have hget : ((s.take j).map (mapB 65 97) ++ s.drop j).getD j 0 = s.getD j 0 := by
      rw [List.getD_eq_getElem?_getD, List.getD_eq_getElem?_getD, List.getElem?_append_right (by rw [List.length_map, List.length_take]; omega), List.length_map, List.length_take, List.getElem?_drop, show j + (j - min j s.length) = j by omega]
    simp only [go_sem, reduceIte, Nat.reduceEqDiff, Nat.reduceAdd, Nat.reduceLeDiff, Nat.reduceLT, h3, hi, Int.ofNat_lt, hlt, decide_true, lenH_sarr, len_hsl, ia_hsl, hH, iaH_sarr, load_aptr, loadH_map, List.length_map, hlen, Int.toNat_natCast, bR, wrap_suc (show j < 9223372036854775807 by omega), Nat.zero_add, true_and, and_true, hget, u8_default, Nat.le_refl, Bool.and_eq_true, decide_eq_true_eq]
    have hnext : (s.take (j + 1)).map (mapB 65 97) ++ s.drop (j + 1) = (((s.take j).map (mapB 65 97) ++ s.drop j)).set j (mapB 65 97 (s.getD j 0)) := by
      rw [List.set_append_right _ _ (by rw [List.length_map, List.length_take]; omega), List.length_map, List.length_take, show j - min j s.length = 0 by omega, drop_get hlt, List.set_cons_zero, take_step 0 hlt, List.map_append]
      simp
    by_cases hc : 65 ≤ (s.getD j 0).toNat ∧ (s.getD j 0).toNat < 65 + 26
    · have hv : IntKind.u8.wrap (((s.getD j 0).toNat : Int) + 32) = ((mapB 65 97 (s.getD j 0)).toNat : Int) := by
        unfold mapB
        rw [if_pos hc, UInt8.toNat_ofNat', IntWalk.u8_in _ (by omega)]
        omega
      rw [if_pos ⟨by omega, by omega⟩, store_aptr, hH, storeA_map, WX_gd]
      refine ⟨⟨rfl, by rw [hlen]; exact hlt⟩, ?_⟩
      rw [hv, set_map, hnext]
      rfl
    · rw [if_neg (by omega), hnext]
      have : mapB 65 97 (s.getD j 0) = ((s.take j).map (mapB 65 97) ++ s.drop j).getD j 0 := by
        rw [hget]; unfold mapB; rw [if_neg hc]
      rw [this, set_getD]
  · rintro T' H' n' hk hi hH _
    have h3 : T' 3 = .hsl 2 0 0 s.length := hk 3 rfl
    clear hk
    rw [List.take_length, List.drop_length, List.append_nil] at hH
    simp only [go_sem, reduceIte, Nat.reduceEqDiff, Nat.reduceAdd, Nat.reduceLeDiff, Nat.reduceLT, h3, hi, len_hsl, hH, lenH_sarr, Int.lt_irrefl, decide_false, conv_hsl hH (show s.length = (s.map (mapB 65 97)).length by simp)]
theorem kw_low : ∀ j, j < 47 → isKw ((kwL.getD j []).map (mapB 65 97)) = true := by
  have h : ((List.range 47).all fun i => isKw ((kwL.getD i []).map (mapB 65 97))) = true := by kernel_rfl
  intro i hi
  exact List.all_eq_true.1 h i (List.mem_range.2 hi)
theorem kw_short : ∀ j, (kwL.getD j []).length ≤ 100 := by
  have h : ((List.range 47).all fun i => decide ((kwL.getD i []).length ≤ 100)) = true := by kernel_rfl
  intro i
  by_cases hi : i < 47
  · exact of_decide_eq_true (List.all_eq_true.1 h i (List.mem_range.2 hi))
  · rw [List.getD_eq_getElem?_getD, List.getElem?_eq_none (by rw [kw_len]; omega)]; simp
def symA : List (List UInt8) := [[40], [41], [42], [43], [44], [45], [46], [59], [60], [60, 61], [60, 62], [61], [62], [62, 61], [124, 124]]
theorem sym_all : calL EE 21 [] [] = some (.ret (.s (.slice (symA.map txRow) true)), []) := cal_run (n := 100) (by kernel_rfl)
theorem refSym_all : calL EE 23 [] [] = some (.ret (.s (.slice (symA.map txRow) true)), []) := cal_run (n := 100) (by kernel_rfl)
theorem refKw_all : calL EE 22 [] [] = some (.ret (.s (.slice (kwL.map txRow) true)), []) := cal_run (n := 100) (by kernel_rfl)
theorem sym_len : symA.length = 15 := rfl
theorem ia_sy {H : Ob} {k : IntKind} {i : Int} : indexAM (.sl 1) H (.s (.slice (symA.map txRow) true)) (.s (.int k i)) = gd (0 ≤ i ∧ i < 15) (.eptr (symA.map txRow) i.toNat 0) := by
  have := ia_sv (f := txRow) (s := .mk symA true) (size := 1) (H := H) (k := k) (i := i) (fun _ => rfl) (by omega)
  exact this
theorem len_sy {H : Ob} : lenM (.sl 0) H (.s (.slice (symA.map txRow) true)) = some (.i64 15) := by
  have := len_slice (es := symA.map txRow) (full := true) (k := 0) (H := H)
  rw [List.length_map, sym_len] at this
  exact this
theorem load_sy {i : Nat} {H : Ob} : loadM false 1 H (.eptr (symA.map txRow) i 0) = gd (i < 15) (.str (symA.getD i [])) := by
  rw [load_eptr, sym_len]
  rfl
theorem t6 (s : List UInt8) (hs : s.length ≤ 9223372036854775807) : ∃ H' n', runL EE 6 [.str s] (Ob.of []) 0 = some (.ret (.bool true), H', n') := by
  refine run_true ?_
  refine fn_run (R := fun v _ _ => v = .bool true) f6 (by simp) ?_
  unfold c6
  simp only [go_sem, reduceIte, Nat.reduceEqDiff, Nat.reduceAdd, Nat.reduceLeDiff, Nat.reduceLT]
  refine WC_p rfl rfl awake23 ?_
  simp only [go_sem, reduceIte, Nat.reduceEqDiff, Nat.reduceAdd, Nat.reduceLeDiff, Nat.reduceLT, Bool.not_true, decide_eq_true_eq]
  by_cases h100 : 100 < s.length
  · rw [if_pos (by omega)]
    refine WC_p rfl rfl awake23 ?_
    simp only [go_sem, reduceIte, Nat.reduceEqDiff, Nat.reduceAdd, Nat.reduceLeDiff, Nat.reduceLT]
  · rw [if_neg (by omega)]
    refine WC_p rfl rfl kw_ok ?_
    simp only [go_sem, reduceIte, Nat.reduceEqDiff, Nat.reduceAdd, Nat.reduceLeDiff, Nat.reduceLT]
    refine WC_p rfl rfl sym_all ?_
    simp only [go_sem, reduceIte, Nat.reduceEqDiff, Nat.reduceAdd, Nat.reduceLeDiff, Nat.reduceLT]
    refine WC_p rfl rfl refKw_all ?_
    simp only [go_sem, reduceIte, Nat.reduceEqDiff, Nat.reduceAdd, Nat.reduceLeDiff, Nat.reduceLT]
    refine WC_p rfl rfl refSym_all ?_
    simp only [go_sem, reduceIte, Nat.reduceEqDiff, Nat.reduceAdd, Nat.reduceLeDiff, Nat.reduceLT, len_kw, len_sy, decide_true, Bool.not_true, Bool.or_self]
    refine WP_mid rfl (Q' := fun e T1 H1 n1 => e = .exit 0 ∧ T1 7 = .bool (isKw s)) ?_ ?_
    · refine WP_scan rfl 36 47 (fun _ => True) (fun j T H n => T 7 = .bool (decide (s.map (mapB 97 65) ∈ kwL.take j))) rfl rfl ?_ ?_
      · rintro j T' H' n' hlt hf hi h7 _
        have h0 : T' 0 = .str s := hf 0 rfl
        have h3 : T' 3 = .s (.slice (kwL.map txRow) true) := hf 3 rfl
        have h5 : T' 5 = .s (.slice (kwL.map txRow) true) := hf 5 rfl
        have h35 : T' 35 = .i64 47 := hf 35 rfl
        clear hf
        have hj : (j : Int) < 47 := by omega
        have hg : 0 ≤ (j : Int) ∧ (j : Int) < 47 := ⟨by omega, hj⟩
        have hw := wrap_suc (j := j) (by omega)
        have hsh := kw_short j
        simp only [go_sem, reduceIte, Nat.reduceEqDiff, Nat.reduceAdd, Nat.reduceLeDiff, Nat.reduceLT, h3, h5, h35, hi, hj, hg, decide_true, ia_kw, load_kw, hlt, Int.toNat_natCast, Bool.not_true]
        refine WC_p rfl rfl (refLower_ok _ (by omega)) ?_
        simp only [go_sem, reduceIte, Nat.reduceEqDiff, Nat.reduceAdd, Nat.reduceLeDiff, Nat.reduceLT]
        refine WC_p rfl rfl (isKw_ok _ (by rw [List.length_map]; omega)) ?_
        rw [kw_low j hlt]
        have hst : decide (s.map (mapB 97 65) ∈ kwL.take (j + 1)) = (decide (s.map (mapB 97 65) ∈ kwL.take j) || decide (s.map (mapB 97 65) = kwL.getD j [])) := by
          rw [take_step [] (show j < kwL.length from hlt), Bool.eq_iff_iff]
          simp
        cases hb : decide (s.map (mapB 97 65) ∈ kwL.take j) with
        | true =>
          rw [hb] at h7 hst
          simp only [go_sem, reduceIte, Nat.reduceEqDiff, Nat.reduceAdd, Nat.reduceLeDiff, Nat.reduceLT, h0, h3, h7, hi, hw, Bool.not_true]
          exact congrArg (fun b => PV.bool b) (hst.trans (Bool.true_or _)).symm
        | false =>
          rw [hb] at h7 hst
          simp only [go_sem, reduceIte, Nat.reduceEqDiff, Nat.reduceAdd, Nat.reduceLeDiff, Nat.reduceLT, h0, h3, h7, hi, hw, Bool.not_true]
          refine WC_p rfl rfl (refUpper_ok s (by omega)) ?_
          simp only [go_sem, reduceIte, Nat.reduceEqDiff, Nat.reduceAdd, Nat.reduceLeDiff, Nat.reduceLT, h0, h3, h7, hi, hj, hg, hlt, hw, ia_kw, load_kw, Int.toNat_natCast]
          exact congrArg (fun b => PV.bool b) (hst.trans (Bool.false_or _)).symm
      · rintro T' H' n' hf hi h7 _
        have h35 : T' 35 = .i64 47 := hf 35 rfl
        clear hf
        have h47 : ¬ ((47 : Nat) : Int) < 47 := by omega
        have e47 : kwL.take 47 = kwL := by kernel_rfl
        rw [e47] at h7
        simp only [go_sem, reduceIte, Nat.reduceEqDiff, Nat.reduceAdd, Nat.reduceLeDiff, Nat.reduceLT, h35, hi, h47, decide_false]
        exact h7
    · rintro e T1 H1 n1 hf ⟨rfl, h7⟩
      have h0 : T1 0 = .str s := hf 0 rfl
      have h4 : T1 4 = .s (.slice (symA.map txRow) true) := hf 4 rfl
      have h6 : T1 6 = .s (.slice (symA.map txRow) true) := hf 6 rfl
      clear hf
      simp only [go_sem, reduceIte, Nat.reduceEqDiff, Nat.reduceAdd, Nat.reduceLeDiff, Nat.reduceLT, h4, len_sy]
      refine WP_scan rfl 70 15 (fun _ => True) (fun _ _ _ _ => True) rfl trivial ?_ ?_
      · rintro j T' H' n' hlt hf hi _ _
        have g4 : T' 4 = .s (.slice (symA.map txRow) true) := (hf 4 rfl).trans h4
        have g6 : T' 6 = .s (.slice (symA.map txRow) true) := (hf 6 rfl).trans h6
        have g69 : T' 69 = .i64 15 := hf 69 rfl
        clear hf
        have hj : (j : Int) < 15 := by omega
        have hg : 0 ≤ (j : Int) ∧ (j : Int) < 15 := ⟨by omega, hj⟩
        have hw := wrap_suc (j := j) (by omega)
        simp only [go_sem, reduceIte, Nat.reduceEqDiff, Nat.reduceAdd, Nat.reduceLeDiff, Nat.reduceLT, g4, g6, g69, hi, hj, hg, decide_true, ia_sy, load_sy, hlt, Int.toNat_natCast, Bool.not_true, hw]
      · rintro T' H' n' hf hi _ _
        have g0 : T' 0 = .str s := (hf 0 rfl).trans h0
        have g7 : T' 7 = .bool (isKw s) := (hf 7 rfl).trans h7
        have g69 : T' 69 = .i64 15 := hf 69 rfl
        clear hf
        have h15 : ¬ ((15 : Nat) : Int) < 15 := by omega
        simp only [go_sem, reduceIte, Nat.reduceEqDiff, Nat.reduceAdd, Nat.reduceLeDiff, Nat.reduceLT, g0, g69, hi, h15, decide_false]
        refine WC_p rfl rfl (isKw_ok s (by omega)) ?_
        simp only [go_sem, reduceIte, Nat.reduceEqDiff, Nat.reduceAdd, Nat.reduceLeDiff, Nat.reduceLT, g7, beq_self_eq_true]
end Go.Vm
