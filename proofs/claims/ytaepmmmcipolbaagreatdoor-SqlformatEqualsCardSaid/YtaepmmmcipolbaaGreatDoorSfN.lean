/- Chapter 24: names. -/
import Derived.Test.YtaepmmmcipolbaaGreatDoorSfP
import Derived.Test.YtaepmmmcipolbaaGreatDoorSfK
set_option linter.unusedVariables false
set_option linter.unusedSimpArgs false
set_option maxRecDepth 100000
namespace Go.Vm
open Go

def nmC : List UInt8 := [97, 98, 99, 100, 101, 102, 103, 104, 105, 106, 107, 108, 109, 110, 111, 112, 113, 114, 115, 116, 117, 118, 119, 120, 121, 122, 48, 49, 50, 51, 52, 53, 54, 55, 56, 57, 95]
theorem nm_has (b : UInt8) : nmC.contains b = nmB b := by
  refine forall_u8 (P := fun b => nmC.contains b = nmB b) ?_ b
  have h : ((List.range 256).all fun n => nmC.contains (UInt8.ofNat n) == nmB (UInt8.ofNat n)) = true := by kernel_rfl
  intro n hn
  exact eq_of_beq (List.all_eq_true.1 h n (List.mem_range.2 hn))
theorem trim_nm (l : List UInt8) : Lib.trimS l nmC = [] ↔ l.all nmB = true := by
  have e : (fun b => nmC.contains b) = nmB := funext nm_has
  unfold Lib.trimS Lib.trimLeftS Lib.trimRightS
  rw [show (nmC.contains ·) = nmB from e, dw_nil]
  constructor
  · intro h
    cases hr : l.reverse.dropWhile nmB with
    | nil =>
      have := dw_nil.1 hr
      rwa [List.all_reverse] at this
    | cons x xs =>
      exfalso
      rw [hr, List.all_reverse, List.all_cons, dw_head hr] at h
      cases h
  · intro h
    have : l.reverse.dropWhile nmB = [] := dw_nil.2 (by rw [List.all_reverse]; exact h)
    rw [this]
    rfl
theorem ext_trim (s : List UInt8) (h : s.length ≤ 1000000) : calL EE 117 [.str s, .str nmC] [] = some (.ret (.str (Lib.trimS s nmC)), []) := by
  refine ext_cal (g := trimX) (v := .str (Lib.trimS s nmC)) rfl ?_ own_s
  unfold trimX
  simp only
  rw [if_pos ⟨by omega, by decide, by decide⟩]
/-- What is asked of a name ahead of its bytes. -/
def preN (s : List UInt8) : Bool := !decide (s = []) && decide (s.length ≤ 31) && isLow (s.getD 0 0)
theorem nameV_pre (s : List UInt8) : nameV s = (preN s && !isKw s && s.all nmB) := rfl
theorem pre_eq (s : List UInt8) : (decide (s = []) || decide ((31 : Int) < s.length) || decide (((s.getD (Int.toNat 0) 0).toNat : Int) < 97) || decide ((122 : Int) < ((s.getD (Int.toNat 0) 0).toNat : Int))) = !preN s := by
  unfold preN isLow
  rw [show Int.toNat 0 = 0 from rfl, Bool.eq_iff_iff]
  simp only [Bool.or_eq_true, decide_eq_true_eq, Bool.not_eq_true', Bool.and_eq_false_iff, decide_eq_false_iff_not, Bool.not_eq_false']
  by_cases h : s = []
  · simp [h]
  · simp only [h, false_or]
    omega
theorem pre_eq2 (s : List UInt8) : (decide ((s.length : Int) < 1) || decide ((31 : Int) < s.length) || decide (((s.getD (Int.toNat 0) 0).toNat : Int) < 97) || decide ((122 : Int) < ((s.getD (Int.toNat 0) 0).toNat : Int))) = !preN s := by
  rw [← pre_eq]
  congr 3
  rw [decide_eq_decide]
  constructor
  · intro h; exact List.length_eq_zero_iff.1 (by omega)
  · rintro rfl; simp
theorem bnd_name (s : List UInt8) : (∀ x : Bool, (decide (s = []) || x) = true ∨ (0 : Int) ≤ 0 ∧ (0 : Int) < s.length) ∧ (∀ x : Bool, (decide ((s.length : Int) < 1) || x) = true ∨ (0 : Int) ≤ 0 ∧ (0 : Int) < s.length) := by
  cases s with
  | nil => exact ⟨fun x => .inl (by simp), fun x => .inl (by simp)⟩
  | cons b r => exact ⟨fun x => .inr ⟨Int.le_refl _, by simp only [List.length_cons]; omega⟩, fun x => .inr ⟨Int.le_refl _, by simp only [List.length_cons]; omega⟩⟩
theorem nm_dec (b : UInt8) : (decide ((97 : Int) ≤ (b.toNat : Int)) && decide ((b.toNat : Int) ≤ 122) || decide ((48 : Int) ≤ (b.toNat : Int)) && decide ((b.toNat : Int) ≤ 57) || decide ((b.toNat : Int) = 95)) = nmB b := by
  unfold nmB isLow isDig
  rw [show decide ((b.toNat : Int) = 95) = decide (b = 95) from u8d (k := 95) (by omega), show decide ((97 : Int) ≤ (b.toNat : Int)) = decide (97 ≤ b.toNat) from decide_eq_decide.2 (by omega), show decide ((b.toNat : Int) ≤ 122) = decide (b.toNat ≤ 122) from decide_eq_decide.2 (by omega), show decide ((48 : Int) ≤ (b.toNat : Int)) = decide (48 ≤ b.toNat) from decide_eq_decide.2 (by omega), show decide ((b.toNat : Int) ≤ 57) = decide (b.toNat ≤ 57) from decide_eq_decide.2 (by omega)]
theorem name_ok (s : List UInt8) : calL EE 42 [.str s] [] = some (.ret (.bool (nameV s)), []) := by
  refine fn_ok f42 (by simp) ?_
  unfold c42
  have em : ([97, 98, 99, 100, 101, 102, 103, 104, 105, 106, 107, 108, 109, 110, 111, 112, 113, 114, 115, 116, 117, 118, 119, 120, 121, 122, 48, 49, 50, 51, 52, 53, 54, 55, 56, 57, 95] : List UInt8) = nmC := rfl
  have hp := pre_eq s
  rw [nameV_pre]
  cases hq : preN s with
  | false =>
    rw [hq] at hp
    simp only [go_sem, reduceIte, Nat.reduceEqDiff, Nat.reduceAdd, Nat.reduceLeDiff, Nat.reduceLT, em, hp, Bool.not_false, Bool.false_and]
    exact ⟨(bnd_name s).1 _, by rw [Bool.or_assoc]; exact (bnd_name s).1 _⟩
  | true =>
    rw [hq] at hp
    have hl : s.length ≤ 31 := by
      unfold preN at hq
      simp only [Bool.and_eq_true, decide_eq_true_eq] at hq
      exact hq.1.2
    simp only [go_sem, reduceIte, Nat.reduceEqDiff, Nat.reduceAdd, Nat.reduceLeDiff, Nat.reduceLT, em, hp, Bool.not_true]
    refine ⟨⟨(bnd_name s).1 _, ?_⟩, ?_⟩
    · rw [Bool.or_assoc]; exact (bnd_name s).1 _
    refine WC_p rfl rfl (isKw_ok s (by omega)) ?_
    cases hk : isKw s with
    | true =>
      simp only [go_sem, reduceIte, Nat.reduceEqDiff, Nat.reduceAdd, Nat.reduceLeDiff, Nat.reduceLT, hp, Bool.not_true, Bool.and_false, Bool.false_and]
    | false =>
      simp only [go_sem, reduceIte, Nat.reduceEqDiff, Nat.reduceAdd, Nat.reduceLeDiff, Nat.reduceLT, hp, Bool.not_true]
      refine WC_p rfl rfl (ext_trim s (by omega)) ?_
      simp only [go_sem, reduceIte, Nat.reduceEqDiff, Nat.reduceAdd, Nat.reduceLeDiff, Nat.reduceLT]
      have : decide (Lib.trimS s nmC = []) = s.all nmB := by rw [Bool.eq_iff_iff, decide_eq_true_eq, trim_nm]
      rw [this]
theorem refName_ok (s : List UInt8) : calL EE 48 [.str s] [] = some (.ret (.bool (nameV s)), []) := by
  refine fn_ok f48 (by simp) ?_
  unfold c48
  have hp := pre_eq2 s
  rw [nameV_pre]
  cases hq : preN s with
  | false =>
    rw [hq] at hp
    simp only [go_sem, reduceIte, Nat.reduceEqDiff, Nat.reduceAdd, Nat.reduceLeDiff, Nat.reduceLT, hp, Bool.not_false, Bool.false_and]
    exact ⟨(bnd_name s).2 _, by rw [Bool.or_assoc]; exact (bnd_name s).2 _⟩
  | true =>
    rw [hq] at hp
    have hl : s.length ≤ 31 := by
      unfold preN at hq
      simp only [Bool.and_eq_true, decide_eq_true_eq] at hq
      exact hq.1.2
    simp only [go_sem, reduceIte, Nat.reduceEqDiff, Nat.reduceAdd, Nat.reduceLeDiff, Nat.reduceLT, hp, Bool.not_true]
    refine ⟨⟨(bnd_name s).2 _, ?_⟩, ?_⟩
    · rw [Bool.or_assoc]; exact (bnd_name s).2 _
    refine WC_p rfl rfl (refKw_ok s (by omega)) ?_
    cases hk : isKw s with
    | true =>
      simp only [go_sem, reduceIte, Nat.reduceEqDiff, Nat.reduceAdd, Nat.reduceLeDiff, Nat.reduceLT, hp, Bool.not_true, Bool.and_false, Bool.false_and]
    | false =>
      simp only [go_sem, reduceIte, Nat.reduceEqDiff, Nat.reduceAdd, Nat.reduceLeDiff, Nat.reduceLT, hp, Bool.not_true]
      refine WP_scan rfl 3 s.length (fun j => nmB (s.getD j 0) = true) (fun _ _ _ _ => True) rfl trivial ?_ ?_
      · rintro j T' H' n' hlt hf hi _ _
        have h0 : T' 0 = .str s := hf 0 rfl
        clear hf
        have hji : (j : Int) < s.length := by omega
        have hwj := wrap_suc (j := j) (by omega)
        simp only [go_sem, reduceIte, Nat.reduceEqDiff, Nat.reduceAdd, Nat.reduceLeDiff, Nat.reduceLT, h0, hi, hji, decide_true, Int.toNat_natCast, hwj, nm_dec]
        cases hb : nmB (s.getD j 0) with
        | true => rw [if_neg (by simp)]
        | false => rw [if_pos (by simp), all_not 0 hlt hb]
      · rintro T' H' n' hf hi _ hpp
        have h0 : T' 0 = .str s := hf 0 rfl
        clear hf
        have hall : s.all nmB = true := by
          rw [List.all_eq_true]
          intro x hx
          obtain ⟨j, hj, e⟩ := List.getElem_of_mem hx
          have := hpp j hj
          rw [List.getD_eq_getElem?_getD, List.getElem?_eq_getElem hj] at this
          rw [← e]; exact this
        simp only [go_sem, reduceIte, Nat.reduceEqDiff, Nat.reduceAdd, Nat.reduceLeDiff, Nat.reduceLT, h0, hi, Int.lt_irrefl, decide_false, hall]
theorem opt_ok (s : List UInt8) : calL EE 43 [.str s] [] = some (.ret (.bool (optV s)), []) := by
  refine fn_ok f43 (by simp) ?_
  unfold c43 optV
  simp only [go_sem, reduceIte, Nat.reduceEqDiff, Nat.reduceAdd, Nat.reduceLeDiff, Nat.reduceLT]
  cases h : decide (s = []) with
  | true => simp only [go_sem, reduceIte, Nat.reduceEqDiff, Nat.reduceAdd, Nat.reduceLeDiff, Nat.reduceLT, h, Bool.true_or]
  | false =>
    simp only [go_sem, reduceIte, Nat.reduceEqDiff, Nat.reduceAdd, Nat.reduceLeDiff, Nat.reduceLT, h]
    refine WC_p rfl rfl (name_ok s) ?_
    simp only [go_sem, reduceIte, Nat.reduceEqDiff, Nat.reduceAdd, Nat.reduceLeDiff, Nat.reduceLT, h, Bool.false_or]
theorem alias_ok (s : List UInt8) : calL EE 49 [.str s] [] = some (.ret (.bool (optV s)), []) := by
  refine fn_ok f49 (by simp) ?_
  unfold c49 optV
  simp only [go_sem, reduceIte, Nat.reduceEqDiff, Nat.reduceAdd, Nat.reduceLeDiff, Nat.reduceLT]
  cases h : decide (s = []) with
  | true => simp only [go_sem, reduceIte, Nat.reduceEqDiff, Nat.reduceAdd, Nat.reduceLeDiff, Nat.reduceLT, h, Bool.true_or]
  | false =>
    simp only [go_sem, reduceIte, Nat.reduceEqDiff, Nat.reduceAdd, Nat.reduceLeDiff, Nat.reduceLT, h]
    refine WC_p rfl rfl (refName_ok s) ?_
    simp only [go_sem, reduceIte, Nat.reduceEqDiff, Nat.reduceAdd, Nat.reduceLeDiff, Nat.reduceLT, h, Bool.false_or]
end Go.Vm
