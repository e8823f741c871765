/- Literals: what Format and Parse give; the law ValueRoundTrip, run by the machine. -/
import Derived.Test.YtnoambiapjemlaaDoorVlJ
set_option linter.unusedVariables false
set_option linter.unusedSimpArgs false
set_option maxRecDepth 100000
namespace Go.Vm

abbrev txT : List UInt8 := [84, 82, 85, 69]
abbrev txF : List UInt8 := [70, 65, 76, 83, 69]
def fmtV (v : Val) : List UInt8 := if validV v = false then [] else if v.kind = 0 then Lib.itoa v.n else if v.kind = 1 then 39 :: (q2 v.text ++ [39]) else if v.n = 1 then txT else txF
def vz : Val := ⟨0, 0, []⟩
def parseV (s : List UInt8) : Val × Int :=
  if s = txT then (⟨2, 1, []⟩, 0) else if s = txF then (⟨2, 0, []⟩, 0) else match unqV s with
    | some t => if 255 < t.length then (vz, 6) else (⟨1, 0, t⟩, 0)
    | none => if intOk s = false then (vz, 3) else match Lib.parseIntB 64 s with
      | .ok n => (⟨0, n, []⟩, 0)
      | _ => (vz, 2)
def bigV (v : Val) : Prop := -9223372036854775808 ≤ v.n ∧ v.n ≤ 9223372036854775807
theorem t13 (v : Val) (hb : bigV v) (ht : v.text.length ≤ 100000) : calL EE 13 [.st v.row] [] = some (.ret (.str (fmtV v)), []) := by
  refine fn_ok f13 (by simp) ?_
  unfold c13 fmtV
  simp only [go_sem, reduceIte, Nat.reduceEqDiff, Nat.reduceAdd, Nat.reduceLeDiff, Nat.reduceLT, Val.row]
  refine WC_p rfl rfl (t15 v) ?_
  simp only [go_sem, reduceIte, Nat.reduceEqDiff, Nat.reduceAdd, Nat.reduceLeDiff, Nat.reduceLT, Val.row, Bool.not_eq_true', decide_eq_true_eq]
  split
  · rfl
  · split
    · refine WC_p rfl rfl (ext34 v.n hb.1 hb.2) ?_
      simp only [go_sem, reduceIte, Nat.reduceEqDiff, Nat.reduceAdd, Nat.reduceLeDiff, Nat.reduceLT]
    · split
      · refine WC_p rfl rfl (ext35 v.text [39] [39, 39] (by omega) (by simp) (by simp)) ?_
        have := q2_len v.text
        simp only [go_sem, reduceIte, Nat.reduceEqDiff, Nat.reduceAdd, Nat.reduceLeDiff, Nat.reduceLT, rep_q, List.cons_append, List.nil_append, List.length_append]
        omega
      · split
        · rfl
        · rfl
theorem nilT : binM .neq (.nil 0) errP (.s .nili) = some (.s (.bool true)) := rfl
theorem nilF : binM .neq (.nil 0) (.s .nili) (.s .nili) = some (.s (.bool false)) := rfl
theorem t11 (s : List UInt8) (h : s.length ≤ 1000000) : calL EE 11 [.str s] [] = some (.ret (.tuple [.st (parseV s).1.row, .i64 (parseV s).2]), []) := by
  refine fn_ok f11 (by simp) ?_
  unfold c11
  simp only [go_sem, reduceIte, Nat.reduceEqDiff, Nat.reduceAdd, Nat.reduceLeDiff, Nat.reduceLT, decide_eq_true_eq]
  by_cases h1 : s = txT
  · have e : parseV s = (⟨2, 1, []⟩, 0) := by unfold parseV; rw [if_pos h1]
    rw [if_pos h1, e]
    rfl
  · rw [if_neg h1]
    by_cases h2 : s = txF
    · have e : parseV s = (⟨2, 0, []⟩, 0) := by unfold parseV; rw [if_neg h1, if_pos h2]
      rw [if_pos h2, e]
      rfl
    · rw [if_neg h2]
      obtain ⟨v, hv, t, ok, rfl, h3, h4⟩ := t29 s h
      refine WC_p rfl rfl hv ?_
      simp only [go_sem, reduceIte, Nat.reduceEqDiff, Nat.reduceAdd, Nat.reduceLeDiff, Nat.reduceLT, extractV, decide_eq_true_eq]
      cases hu : unqV s with
      | some u =>
        rw [hu] at h3
        rw [show ok = true from h3, h4 u hu, if_pos rfl]
        split
        · rename_i hl
          have e : parseV s = (vz, 6) := by unfold parseV; rw [if_neg h1, if_neg h2, hu]; simp only; rw [if_pos (by omega)]
          rw [e]
          rfl
        · rename_i hl
          have e : parseV s = (⟨1, 0, u⟩, 0) := by unfold parseV; rw [if_neg h1, if_neg h2, hu]; simp only; rw [if_neg (by omega)]
          rw [e]
          rfl
      | none =>
        rw [hu] at h3
        rw [show ok = false from h3, if_neg (by simp)]
        refine WC_p rfl rfl (t30 s h) ?_
        simp only [go_sem, reduceIte, Nat.reduceEqDiff, Nat.reduceAdd, Nat.reduceLeDiff, Nat.reduceLT, Bool.not_eq_true']
        split
        · rename_i hi
          have e : parseV s = (vz, 3) := by unfold parseV; rw [if_neg h1, if_neg h2, hu]; simp only; rw [if_pos hi]
          rw [e]
          rfl
        · rename_i hi
          refine WC_p rfl rfl (ext31 s h) ?_
          have e : parseV s = match Lib.parseIntB 64 s with
            | .ok n => (⟨0, n, []⟩, 0)
            | _ => (vz, 2) := by unfold parseV; rw [if_neg h1, if_neg h2, hu]; simp only; rw [if_neg hi]
          rw [e]
          unfold parV
          cases Lib.parseIntB 64 s with
          | ok n => simp only [go_sem, reduceIte, Nat.reduceEqDiff, Nat.reduceAdd, Nat.reduceLeDiff, Nat.reduceLT, extractV, nilF, Val.row]
          | _ => simp only [go_sem, reduceIte, Nat.reduceEqDiff, Nat.reduceAdd, Nat.reduceLeDiff, Nat.reduceLT, extractV, nilT, Val.row, vz]
end Go.Vm
