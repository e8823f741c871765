/- Chapter 23: the reference's in. -/
import Derived.Test.YtpnlogofcecjeaaGreatDoorLxN
set_option linter.unusedVariables false
set_option linter.unusedSimpArgs false
set_option maxRecDepth 100000
namespace Go.Vm
open Go
theorem ia_tx {l : List (List UInt8)} {H : Ob} {k : IntKind} {i : Int} : indexAM (.sl 1) H (.s (.slice (l.map txRow) true)) (.s (.int k i)) = gd (0 ≤ i ∧ i < l.length) (.eptr (l.map txRow) i.toNat 0) := ia_sv (f := txRow) (s := .mk l true) (size := 1) (fun _ => rfl) (by omega)
theorem refIn_ok (l : List (List UInt8)) (x : List UInt8) (hl : l.length ≤ 1000000) : calL EE 56 [.s (.slice (l.map txRow) true), .str x] [] = some (.ret (.bool (decide (x ∈ l))), []) := by
  refine fn_ok f56 (by simp) ?_
  unfold c56
  simp only [go_sem, reduceIte, Nat.reduceEqDiff, Nat.reduceAdd, Nat.reduceLeDiff, Nat.reduceLT]
  refine WP_scan rfl 5 l.length (fun j => l.getD j [] ≠ x) (fun _ _ _ _ => True) rfl trivial ?_ ?_
  · rintro j T' H' n' hlt hf hi _ _
    have h0 : T' 0 = .s (.slice (l.map txRow) true) := hf 0 rfl
    have h1 : T' 1 = .str x := hf 1 rfl
    clear hf
    have hd : l.getD j default = l.getD j [] := rfl
    simp only [go_sem, reduceIte, Nat.reduceEqDiff, Nat.reduceAdd, Nat.reduceLeDiff, Nat.reduceLT, h0, h1, hi, len_slice, List.length_map, Int.ofNat_lt, hlt, decide_true, ia_tx, load_eptr, txRow, hd, wrap_suc (show j < 9223372036854775807 by omega), Int.toNat_natCast, decide_eq_true_eq]
    split
    · rename_i e
      rw [decide_eq_true (show x ∈ l from by rw [← e]; exact getD_mem [] hlt)]
    · rename_i e
      exact e
  · rintro T' H' n' hf hi _ hp
    have h0 : T' 0 = .s (.slice (l.map txRow) true) := hf 0 rfl
    clear hf
    have hno : ¬ x ∈ l := fun h => by
      obtain ⟨j, hj, e⟩ := List.getElem_of_mem h
      refine hp j hj ?_
      rw [List.getD_eq_getElem?_getD, List.getElem?_eq_getElem hj]
      exact e
    simp only [go_sem, reduceIte, Nat.reduceEqDiff, Nat.reduceAdd, Nat.reduceLeDiff, Nat.reduceLT, h0, hi, len_slice, List.length_map, Int.lt_irrefl, decide_false, hno]
end Go.Vm
