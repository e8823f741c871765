/- Rows of values and how they are compared. -/
import Derived.Test.YtnoambiapjemlaaDoorVlZ
set_option linter.unusedVariables false
set_option linter.unusedSimpArgs false
set_option maxRecDepth 100000
namespace Go.Vm

theorem WV_s {E : Env} {dr : Bool} {g : FuncId} {args : List PV} {H : Ob} {n : Nat} {d T r Q} (h : WCs E dr g args H n d T r Q) : WVs E dr (.s (.func g)) args H n d T r Q := by
  obtain ⟨v, H1, n1, h1, h2⟩ := h
  exact ⟨(g, [], []), rfl, v, H1, n1, by simpa using h1, h2⟩
def sgn (b : Bool) : Int := if b = true then -1 else 1
theorem t48 (b : Bool) : calL EE 48 [.bool b] [] = some (.ret (.i64 (sgn b)), []) := by
  refine fn_ok f48 (by simp) ?_
  unfold c48 sgn
  cases b <;> simp only [go_sem, reduceIte, Nat.reduceEqDiff, Nat.reduceAdd, Nat.reduceLeDiff, Nat.reduceLT]
theorem lt_bytes : ∀ (a b : List UInt8), bytesLt a b = decide (Lib.compareBytes a b < 0)
  | [], [] => rfl
  | [], _ :: _ => rfl
  | _ :: _, [] => rfl
  | x :: a, y :: b => by
    have e : bytesLt (x :: a) (y :: b) = (decide (x < y) || (x == y && bytesLt a b)) := rfl
    rw [e, cb_cons, lt_bytes a b]
    by_cases h : x < y
    · rw [if_pos h, decide_eq_true h, Bool.true_or]; rfl
    · rw [if_neg h, decide_eq_false h, Bool.false_or]
      by_cases h2 : y < x
      · rw [if_pos h2]
        have : (x == y) = false := by
          rw [beq_eq_false_iff_ne]
          intro e
          subst e
          rw [u8_lt] at h2
          omega
        rw [this]; rfl
      · rw [if_neg h2, u8_eq h h2, beq_self_eq_true, Bool.true_and]
theorem t27 (a b : Val) : calL EE 27 [.st a.row, .st b.row] [] = some (.ret (.i64 (cmpV a b)), []) := by
  refine fn_ok f27 (by simp) ?_
  unfold c27
  simp only [go_sem, reduceIte, Nat.reduceEqDiff, Nat.reduceAdd, Nat.reduceLeDiff, Nat.reduceLT, Val.row, Bool.not_eq_true', decide_eq_false_iff_not]
  have z1 := tw_int.zero a.kind b.kind
  have z2 := tw_int.zero a.n b.n
  have z3 := tw_bytes.zero a.text b.text
  have l3 := tw_bytes.lo a.text b.text
  have u3 := tw_bytes.hi a.text b.text
  split
  · rename_i h
    refine WC_p rfl rfl (t48 _) ?_
    simp only [go_sem, reduceIte, Nat.reduceEqDiff, Nat.reduceAdd, Nat.reduceLeDiff, Nat.reduceLT]
    have e : cmpV a b = sgn (decide (a.kind < b.kind)) := by
      unfold cmpV fst3
      rw [if_pos (by simpa [z1] using h)]
      unfold cmpI sgn
      simp only [decide_eq_true_eq]
      split
      · rfl
      · rw [if_pos (by omega)]
    rw [e]
  · rename_i h
    split
    · rename_i h2
      refine WC_p rfl rfl (t48 _) ?_
      simp only [go_sem, reduceIte, Nat.reduceEqDiff, Nat.reduceAdd, Nat.reduceLeDiff, Nat.reduceLT]
      have e : cmpV a b = sgn (decide (a.n < b.n)) := by
        unfold cmpV fst3
        rw [if_neg (by simpa [z1] using h), if_pos (by simpa [z2] using h2)]
        unfold cmpI sgn
        simp only [decide_eq_true_eq]
        split
        · rfl
        · rw [if_pos (by omega)]
      rw [e]
    · rename_i h2
      have e : cmpV a b = Lib.compareBytes a.text b.text := by
        unfold cmpV fst3
        rw [if_neg (by simpa [z1] using h), if_neg (by simpa [z2] using h2)]
      split
      · rename_i h3
        refine WC_p rfl rfl (t48 _) ?_
        simp only [go_sem, reduceIte, Nat.reduceEqDiff, Nat.reduceAdd, Nat.reduceLeDiff, Nat.reduceLT]
        rw [e, lt_bytes]
        unfold sgn
        simp only [decide_eq_true_eq]
        have : Lib.compareBytes a.text b.text ≠ 0 := fun e => h3 (z3.1 e)
        have e2 : (if Lib.compareBytes a.text b.text < 0 then (-1 : Int) else 1) = Lib.compareBytes a.text b.text := by split <;> omega
        rw [e2]
      · rename_i h3
        simp only [Classical.not_not] at h3
        rw [e, z3.2 h3]
/-! ### rows -/
def cmpR : List Val → List Val → Int
  | [], [] => 0
  | [], _ :: _ => -1
  | _ :: _, [] => 1
  | a :: x, b :: y => if cmpV a b ≠ 0 then cmpV a b else cmpR x y
theorem cmpR_cons {a b : Val} {x y : List Val} : cmpR (a :: x) (b :: y) = if cmpV a b ≠ 0 then cmpV a b else cmpR x y := rfl
theorem drop_at {l : List Val} {j : Nat} (h : j < l.length) : l.drop j = l.getD j default :: l.drop (j + 1) := by
  rw [List.drop_eq_getElem_cons h, List.getD_eq_getElem?_getD, List.getElem?_eq_getElem h]
  rfl
theorem cmpR_drop {x y : List Val} : ∀ {j : Nat}, j ≤ x.length → j ≤ y.length → (∀ m, m < j → cmpV (x.getD m default) (y.getD m default) = 0) → cmpR x y = cmpR (x.drop j) (y.drop j)
  | 0, _, _, _ => rfl
  | j + 1, hx, hy, h => by
    rw [cmpR_drop (j := j) (by omega) (by omega) (fun m hm => h m (by omega)), drop_at (by omega), drop_at (l := y) (by omega), cmpR_cons, if_neg (fun hn => hn (h j (by omega)))]
theorem cmpR_end {x y : List Val} (h : x.length = 0 ∨ y.length = 0) : cmpR x y = cmpI x.length y.length := by
  cases x with
  | nil =>
    cases y with
    | nil => rfl
    | cons b y =>
      show (-1 : Int) = _
      unfold cmpI
      rw [if_pos (by simp)]
  | cons a x =>
    cases y with
    | nil =>
      show (1 : Int) = _
      unfold cmpI
      rw [if_neg (by simp only [List.length_cons, List.length_nil]; omega), if_pos (by simp only [List.length_cons, List.length_nil]; omega)]
    | cons b y => simp at h
theorem cmpR_len {x y : List Val} {j : Nat} (hj : j ≤ x.length) (hj' : j ≤ y.length) (h : ∀ m, m < j → cmpV (x.getD m default) (y.getD m default) = 0) (he : j = x.length ∨ j = y.length) : cmpR x y = cmpI x.length y.length := by
  rw [cmpR_drop hj hj' h, cmpR_end (by simp only [List.length_drop]; omega)]
  simp only [List.length_drop]
  unfold cmpI
  by_cases h1 : (x.length : Int) < y.length
  · rw [if_pos h1, if_pos (by omega)]
  · rw [if_neg h1, if_neg (by omega)]
    by_cases h2 : (y.length : Int) < x.length
    · rw [if_pos h2, if_pos (by omega)]
    · rw [if_neg h2, if_neg (by omega)]
theorem cmpR_at {x y : List Val} {j : Nat} (hj : j < x.length) (hj' : j < y.length) (h : ∀ m, m < j → cmpV (x.getD m default) (y.getD m default) = 0) (hn : cmpV (x.getD j default) (y.getD j default) ≠ 0) : cmpR x y = cmpV (x.getD j default) (y.getD j default) := by
  rw [cmpR_drop (j := j) (by omega) (by omega) h, drop_at hj, drop_at hj', cmpR_cons, if_pos hn]
theorem cmpI_lt {a b : Int} (h : a < b) : cmpI a b = -1 := if_pos h
theorem cmpI_gt {a b : Int} (h : b < a) : cmpI a b = 1 := by unfold cmpI; rw [if_neg (by omega), if_pos h]
theorem cmpI_eq {a : Int} : cmpI a a = 0 := by unfold cmpI; rw [if_neg (by omega), if_neg (by omega)]

theorem t47 (x y : Slc Val) (hx : x.l.length ≤ 1099511627776) : calL EE 47 [.s (x.sv Val.row), .s (y.sv Val.row), .s (.func 19)] [] = some (.ret (.i64 (cmpR x.l y.l)), []) := by
  refine fn_ok f47 (by simp) ?_
  unfold c47
  simp only [go_sem, reduceIte, Nat.reduceEqDiff, Nat.reduceAdd, Nat.reduceLeDiff, Nat.reduceLT]
  refine WP_scan rfl 13 x.l.length (fun j => j < y.l.length ∧ cmpV (x.l.getD j default) (y.l.getD j default) = 0) (fun _ _ _ _ => True) rfl trivial ?_ ?_
  · rintro j T' H' n' hlt hf hi _ hp
    have h1 : T' 1 = .s (y.sv Val.row) := hf 1 rfl
    have h2 : T' 2 = .s (.func 19) := hf 2 rfl
    have h11 : T' 11 = .s (x.sv Val.row) := hf 11 rfl
    have h12 : T' 12 = .i64 x.l.length := hf 12 rfl
    clear hf
    simp only [go_sem, reduceIte, Nat.reduceEqDiff, Nat.reduceAdd, Nat.reduceLeDiff, Nat.reduceLT, h1, h2, h11, h12, hi, Int.ofNat_lt, hlt, wrap_suc (show j < 9223372036854775807 by omega), decide_true, ia_val, Val.row, decide_eq_true_eq, ge_iff_le]
    split
    · rename_i h
      have : y.l.length ≤ j := by omega
      have h0 : j = y.l.length := by
        rcases Nat.eq_or_lt_of_le this with h | h
        · exact h.symm
        · have := (hp y.l.length h).1; omega
      rw [cmpR_len (j := j) (by omega) (by omega) (fun m hm => (hp m hm).2) (.inr h0), cmpI_gt (by omega)]
    · rename_i h
      have h0 : j < y.l.length := by omega
      have h0' : (j : Int) < y.l.length := by omega
      simp only [go_sem, reduceIte, Nat.reduceEqDiff, Nat.reduceAdd, Nat.reduceLeDiff, Nat.reduceLT, h1, h2, h11, h12, hi, Int.ofNat_lt, h0, h0', ia_val, Val.row]
      refine WV_s (WC_p rfl rfl (t19 (x.l.getD j default) (y.l.getD j default)) ?_)
      simp only [go_sem, reduceIte, Nat.reduceEqDiff, Nat.reduceAdd, Nat.reduceLeDiff, Nat.reduceLT, hi, Bool.not_eq_true', decide_eq_false_iff_not, wrap_suc (show j < 9223372036854775807 by omega)]
      split
      · rename_i h5
        rw [cmpR_at hlt h0 (fun m hm => (hp m hm).2) h5]
      · rename_i h5
        simp only [Classical.not_not] at h5
        simp only [go_sem, reduceIte, Nat.reduceEqDiff, Nat.reduceAdd, Nat.reduceLeDiff, Nat.reduceLT, hi, h0, h5, wrap_suc (show j < 9223372036854775807 by omega)]
  · rintro T' H' n' hf hi _ hp
    have h0 : T' 0 = .s (x.sv Val.row) := hf 0 rfl
    have h1 : T' 1 = .s (y.sv Val.row) := hf 1 rfl
    have h12 : T' 12 = .i64 x.l.length := hf 12 rfl
    clear hf
    simp only [go_sem, reduceIte, Nat.reduceEqDiff, Nat.reduceAdd, Nat.reduceLeDiff, Nat.reduceLT, h0, h1, h12, hi, Int.lt_irrefl, decide_false, decide_eq_true_eq]
    have hle : x.l.length ≤ y.l.length := by
      rcases Nat.lt_or_ge y.l.length x.l.length with h | h
      · have := (hp _ h).1; omega
      · exact h
    rw [cmpR_len (Nat.le_refl _) hle (fun m hm => (hp m hm).2) (.inl rfl)]
    split
    · rename_i h
      rw [cmpI_lt (by omega)]
    · rename_i h
      have : x.l.length = y.l.length := by omega
      rw [this, cmpI_eq]
theorem t26 (x y : Slc Val) (hx : x.l.length ≤ 1099511627776) : calL EE 26 [.s (x.sv Val.row), .s (y.sv Val.row)] [] = some (.ret (.i64 (cmpR x.l y.l)), []) := by
  refine fn_ok f26 (by simp) ?_
  unfold c26
  simp only [go_sem, reduceIte, Nat.reduceEqDiff, Nat.reduceAdd, Nat.reduceLeDiff, Nat.reduceLT]
  refine WC_p rfl rfl (t47 x y hx) ?_
  simp only [go_sem, reduceIte, Nat.reduceEqDiff, Nat.reduceAdd, Nat.reduceLeDiff, Nat.reduceLT]
theorem t28 (x y : Slc Val) (hx : x.l.length ≤ 1099511627776) : calL EE 28 [.s (x.sv Val.row), .s (y.sv Val.row)] [] = some (.ret (.i64 (cmpR x.l y.l)), []) := by
  refine fn_ok f28 (by simp) ?_
  unfold c28
  simp only [go_sem, reduceIte, Nat.reduceEqDiff, Nat.reduceAdd, Nat.reduceLeDiff, Nat.reduceLT]
  refine WP_scan rfl 5 (min x.l.length y.l.length) (fun j => cmpV (x.l.getD j default) (y.l.getD j default) = 0) (fun _ _ _ _ => True) rfl trivial ?_ ?_
  · rintro j T' H' n' hlt hf hi _ hp
    have h0 : T' 0 = .s (x.sv Val.row) := hf 0 rfl
    have h1 : T' 1 = .s (y.sv Val.row) := hf 1 rfl
    clear hf
    have l0 : j < x.l.length := by omega
    have l1 : j < y.l.length := by omega
    simp only [go_sem, reduceIte, Nat.reduceEqDiff, Nat.reduceAdd, Nat.reduceLeDiff, Nat.reduceLT, h0, h1, hi, Int.ofNat_lt, l0, l1, wrap_suc (show j < 9223372036854775807 by omega), decide_true, ia_val, Val.row]
    refine WC_p rfl rfl (t27 (x.l.getD j default) (y.l.getD j default)) ?_
    simp only [go_sem, reduceIte, Nat.reduceEqDiff, Nat.reduceAdd, Nat.reduceLeDiff, Nat.reduceLT, hi, Bool.not_eq_true', decide_eq_false_iff_not, wrap_suc (show j < 9223372036854775807 by omega)]
    split
    · rename_i h5
      rw [cmpR_at l0 l1 hp h5]
    · rename_i h5
      simpa using h5
  · rintro T' H' n' hf hi _ hp
    have h0 : T' 0 = .s (x.sv Val.row) := hf 0 rfl
    have h1 : T' 1 = .s (y.sv Val.row) := hf 1 rfl
    clear hf
    have hc : (decide (((min x.l.length y.l.length : Nat) : Int) < (x.l.length : Int)) && decide (((min x.l.length y.l.length : Nat) : Int) < (y.l.length : Int))) = false := by
      rw [Bool.and_eq_false_iff, decide_eq_false_iff_not, decide_eq_false_iff_not]; omega
    simp only [go_sem, reduceIte, Nat.reduceEqDiff, Nat.reduceAdd, Nat.reduceLeDiff, Nat.reduceLT, h0, h1, hi, hc, decide_eq_true_eq]
    rw [cmpR_len (j := min x.l.length y.l.length) (by omega) (by omega) hp (by omega)]
    split
    · rename_i h
      have : x.l.length = y.l.length := by omega
      rw [this, cmpI_eq]
    · rename_i h
      refine WC_p rfl rfl (t48 _) ?_
      simp only [go_sem, reduceIte, Nat.reduceEqDiff, Nat.reduceAdd, Nat.reduceLeDiff, Nat.reduceLT]
      have e2 : sgn (decide ((x.l.length : Int) < y.l.length)) = cmpI x.l.length y.l.length := by
        unfold cmpI sgn
        simp only [decide_eq_true_eq]
        split
        · rfl
        · rw [if_pos (by omega)]
      rw [e2]
end Go.Vm
