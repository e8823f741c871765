/- Chapter 24: the reference's keywords. -/
import Derived.Test.YtaepmmmcipolbaaGreatDoorSfB
set_option linter.unusedVariables false
set_option linter.unusedSimpArgs false
set_option maxRecDepth 100000
namespace Go.Vm
open Go

theorem refUpper_ok (s : List UInt8) (hs : s.length ≤ 1000000) : calL EE 174 [.str s] [] = some (.ret (.str (s.map (mapB 97 65))), []) := by
  refine fn_ok f174 (by simp) ?_
  unfold c174
  simp only [go_sem, reduceIte, Nat.reduceEqDiff, Nat.reduceAdd, Nat.reduceLeDiff, Nat.reduceLT, conv_bytes]
  refine ⟨by omega, ?_⟩
  refine WP_scan rfl 4 s.length (fun _ => True) (fun j T H _ => H 2 = .sarr 5 1 0 false false (((s.take j).map (mapB 97 65) ++ s.drop j).map bR)) rfl rfl ?_ ?_
  · rintro j T' H' n' hlt hk hi hH _
    have h3 : T' 3 = .hsl 2 0 0 s.length := hk 3 rfl
    clear hk
    have hlen : ((s.take j).map (mapB 97 65) ++ s.drop j).length = s.length := by
      rw [List.length_append, List.length_map, List.length_take, List.length_drop]; omega
    have hget : ((s.take j).map (mapB 97 65) ++ s.drop j).getD j 0 = s.getD j 0 := by
      rw [List.getD_eq_getElem?_getD, List.getD_eq_getElem?_getD, List.getElem?_append_right (by rw [List.length_map, List.length_take]; omega), List.length_map, List.length_take, List.getElem?_drop, show j + (j - min j s.length) = j by omega]
    simp only [go_sem, reduceIte, Nat.reduceEqDiff, Nat.reduceAdd, Nat.reduceLeDiff, Nat.reduceLT, h3, hi, Int.ofNat_lt, hlt, decide_true, lenH_sarr, len_hsl, ia_hsl, hH, iaH_sarr, load_aptr, loadH_map, List.length_map, hlen, Int.toNat_natCast, bR, wrap_suc (show j < 9223372036854775807 by omega), Nat.zero_add, true_and, and_true, hget, u8_default, Nat.le_refl, Bool.and_eq_true, decide_eq_true_eq]
    have hnext : (s.take (j + 1)).map (mapB 97 65) ++ s.drop (j + 1) = (((s.take j).map (mapB 97 65) ++ s.drop j)).set j (mapB 97 65 (s.getD j 0)) := by
      rw [List.set_append_right _ _ (by rw [List.length_map, List.length_take]; omega), List.length_map, List.length_take, show j - min j s.length = 0 by omega, drop_get hlt, List.set_cons_zero, take_step 0 hlt, List.map_append]
      simp
    by_cases hc : 97 ≤ (s.getD j 0).toNat ∧ (s.getD j 0).toNat < 97 + 26
    · have hv : IntKind.u8.wrap (((s.getD j 0).toNat : Int) - 32) = ((mapB 97 65 (s.getD j 0)).toNat : Int) := by
        unfold mapB
        rw [if_pos hc, UInt8.toNat_ofNat', IntWalk.u8_in _ (by omega)]
        omega
      rw [if_pos ⟨by omega, by omega⟩, store_aptr, hH, storeA_map, WX_gd]
      refine ⟨⟨rfl, by rw [hlen]; exact hlt⟩, ?_⟩
      rw [hv, set_map, hnext]
      rfl
    · rw [if_neg (by omega), hnext]
      have : mapB 97 65 (s.getD j 0) = ((s.take j).map (mapB 97 65) ++ s.drop j).getD j 0 := by
        rw [hget]; unfold mapB; rw [if_neg hc]
      rw [this, set_getD]
  · rintro T' H' n' hk hi hH _
    have h3 : T' 3 = .hsl 2 0 0 s.length := hk 3 rfl
    clear hk
    rw [List.take_length, List.drop_length, List.append_nil] at hH
    simp only [go_sem, reduceIte, Nat.reduceEqDiff, Nat.reduceAdd, Nat.reduceLeDiff, Nat.reduceLT, h3, hi, len_hsl, hH, lenH_sarr, Int.lt_irrefl, decide_false, conv_hsl hH (show s.length = (s.map (mapB 97 65)).length by simp)]
theorem ia_txl {l : List (List UInt8)} {H : Ob} {k : IntKind} {i : Int} : indexAM (.sl 1) H (.s (.slice (l.map txRow) true)) (.s (.int k i)) = gd (0 ≤ i ∧ i < l.length) (.eptr (l.map txRow) i.toNat 0) := ia_sv (f := txRow) (s := .mk l true) (size := 1) (fun _ => rfl) (by omega)
theorem refIn_ok (l : List (List UInt8)) (x : List UInt8) (hl : l.length ≤ 1000000) : calL EE 172 [.s (.slice (l.map txRow) true), .str x] [] = some (.ret (.bool (decide (x ∈ l))), []) := by
  refine fn_ok f172 (by simp) ?_
  unfold c172
  simp only [go_sem, reduceIte, Nat.reduceEqDiff, Nat.reduceAdd, Nat.reduceLeDiff, Nat.reduceLT]
  refine WP_scan rfl 5 l.length (fun j => l.getD j [] ≠ x) (fun _ _ _ _ => True) rfl trivial ?_ ?_
  · rintro j T' H' n' hlt hf hi _ _
    have h0 : T' 0 = .s (.slice (l.map txRow) true) := hf 0 rfl
    have h1 : T' 1 = .str x := hf 1 rfl
    clear hf
    have hd : l.getD j default = l.getD j [] := rfl
    simp only [go_sem, reduceIte, Nat.reduceEqDiff, Nat.reduceAdd, Nat.reduceLeDiff, Nat.reduceLT, h0, h1, hi, len_slice, List.length_map, Int.ofNat_lt, hlt, decide_true, ia_txl, load_eptr, txRow, hd, wrap_suc (show j < 9223372036854775807 by omega), Int.toNat_natCast, decide_eq_true_eq]
    split
    · rename_i e
      rw [decide_eq_true (show x ∈ l from by rw [← e]; exact getD_mem [] hlt)]
    · rename_i e
      exact e
  · rintro T' H' n' hf hi _ hp
    have h0 : T' 0 = .s (.slice (l.map txRow) true) := hf 0 rfl
    clear hf
    have hno : ¬ x ∈ l := fun h => by
      obtain ⟨j, hj, e⟩ := List.getElem_of_mem h
      refine hp j hj ?_
      rw [List.getD_eq_getElem?_getD, List.getElem?_eq_getElem hj]
      exact e
    simp only [go_sem, reduceIte, Nat.reduceEqDiff, Nat.reduceAdd, Nat.reduceLeDiff, Nat.reduceLT, h0, hi, len_slice, List.length_map, Int.lt_irrefl, decide_false, hno]
theorem refKw_all : calL EE 173 [] [] = some (.ret (.s (.slice (kwL.map txRow) true)), []) := cal_run (n := 100) (by kernel_rfl)
theorem refKw_ok (s : List UInt8) (hs : s.length ≤ 1000000) : calL EE 120 [.str s] [] = some (.ret (.bool (isKw s)), []) := by
  refine fn_ok f120 (by simp) ?_
  unfold c120
  simp only [go_sem, reduceIte, Nat.reduceEqDiff, Nat.reduceAdd, Nat.reduceLeDiff, Nat.reduceLT]
  refine WC_p rfl rfl refKw_all ?_
  simp only [go_sem, reduceIte, Nat.reduceEqDiff, Nat.reduceAdd, Nat.reduceLeDiff, Nat.reduceLT]
  refine WC_p rfl rfl (refUpper_ok s hs) ?_
  simp only [go_sem, reduceIte, Nat.reduceEqDiff, Nat.reduceAdd, Nat.reduceLeDiff, Nat.reduceLT]
  refine WC_p rfl rfl (refIn_ok kwL _ (by rw [kw_len]; omega)) ?_
  simp only [go_sem, reduceIte, Nat.reduceEqDiff, Nat.reduceAdd, Nat.reduceLeDiff, Nat.reduceLT, isKw]
end Go.Vm
