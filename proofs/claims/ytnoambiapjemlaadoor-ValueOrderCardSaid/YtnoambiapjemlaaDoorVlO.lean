/- The law ValueOrder, run by the machine. -/
import Derived.Test.YtnoambiapjemlaaDoorVlZ
set_option linter.unusedVariables false
set_option linter.unusedSimpArgs false
set_option maxRecDepth 100000
namespace Go.Vm

theorem t6 (a b c : Val) : ∃ H' n', runL EE 6 [.st a.row, .st b.row, .st c.row] (Ob.of []) 0 = some (.ret (.bool true), H', n') := by
  suffices h : ∃ v H1 n1, runL EE 6 [.st a.row, .st b.row, .st c.row] (Ob.of []) 0 = some (.ret v, H1, n1) ∧ v = .bool true by
    obtain ⟨v, H1, n1, h1, rfl⟩ := h
    exact ⟨H1, n1, h1⟩
  refine fn_run (R := fun v _ _ => v = .bool true) f6 (by simp) ?_
  unfold c6
  simp only [go_sem, reduceIte, Nat.reduceEqDiff, Nat.reduceAdd, Nat.reduceLeDiff, Nat.reduceLT, Val.row]
  refine WC_p rfl rfl awake01 ?_
  simp only [go_sem, reduceIte, Nat.reduceEqDiff, Nat.reduceAdd, Nat.reduceLeDiff, Nat.reduceLT, rowsN, List.reduceReplicate, row1_st]
  obtain ⟨v, hv, ok, rfl, _⟩ := t16 (.mk [a, b, c] true) 3 (by show 3 ≤ _; omega)
  refine WC_p rfl rfl hv ?_
  simp only [go_sem, reduceIte, Nat.reduceEqDiff, Nat.reduceAdd, Nat.reduceLeDiff, Nat.reduceLT, Val.row]
  cases ok with
  | false => simp only [go_sem, reduceIte, Nat.reduceEqDiff, Nat.reduceAdd, Nat.reduceLeDiff, Nat.reduceLT]
  | true =>
    simp only [go_sem, reduceIte, Nat.reduceEqDiff, Nat.reduceAdd, Nat.reduceLeDiff, Nat.reduceLT, Val.row]
    refine WC_p rfl rfl (t19 a b) ?_
    simp only [go_sem, reduceIte, Nat.reduceEqDiff, Nat.reduceAdd, Nat.reduceLeDiff, Nat.reduceLT, Val.row]
    refine WC_p rfl rfl (t19 b c) ?_
    simp only [go_sem, reduceIte, Nat.reduceEqDiff, Nat.reduceAdd, Nat.reduceLeDiff, Nat.reduceLT, Val.row]
    refine WC_p rfl rfl (t19 a c) ?_
    simp only [go_sem, reduceIte, Nat.reduceEqDiff, Nat.reduceAdd, Nat.reduceLeDiff, Nat.reduceLT, Val.row]
    have e0 : cmpV a a = 0 := (tw_val.zero a a).2 rfl
    refine WC_p rfl rfl (t19 a a) ?_
    simp only [go_sem, reduceIte, Nat.reduceEqDiff, Nat.reduceAdd, Nat.reduceLeDiff, Nat.reduceLT, Val.row, e0, decide_true]
    have h1 := tw_val.lo a b
    have h2 := tw_val.hi a b
    have h3 := tw_val.anti a b
    have h4 := tw_val.zero a b
    have h5 := tw_val.trans a b c
    have h6 := tw_val.zero a c
    have h7 := tw_val.anti a c
    have e1 : IntKind.i64.wrap (0 - cmpV a b) = - cmpV a b := by rw [wrap_in (by omega) (by omega)]; omega
    refine WC_p rfl rfl (t19 b a) ?_
    simp only [go_sem, reduceIte, Nat.reduceEqDiff, Nat.reduceAdd, Nat.reduceLeDiff, Nat.reduceLT, Val.row, e0, e1, h3, decide_true]
    refine WC_p rfl rfl (t20 a b) ?_
    simp only [go_sem, reduceIte, Nat.reduceEqDiff, Nat.reduceAdd, Nat.reduceLeDiff, Nat.reduceLT, Val.row, e0, e1, h3, decide_true]
    have g1 : decide (cmpV a b = 0) = decide (a = b) := decide_eq_decide.2 h4
    have g2 : decide (cmpV a b < -1) = false := decide_eq_false (by omega)
    have g3 : decide (1 < cmpV a b) = false := decide_eq_false (by omega)
    have h8 : a = c → cmpV b c = - cmpV a b := fun e => by rw [← e]; exact h3
    have fin : (!(decide (cmpV a b ≤ 0) && decide (cmpV b c ≤ 0)) || decide (cmpV a c ≤ 0) && (decide (cmpV a c < 0) || decide (cmpV a b = 0) && decide (cmpV b c = 0))) = true := by
      simp only [Bool.or_eq_true, Bool.and_eq_true, Bool.not_eq_true', Bool.and_eq_false_iff, decide_eq_true_eq, decide_eq_false_iff_not]
      by_cases hz : cmpV a c = 0
      · have := h8 (h6.1 hz)
        omega
      · omega
    rw [fin, g1, g2, g3, beq_self_eq_true]
    rfl
end Go.Vm
