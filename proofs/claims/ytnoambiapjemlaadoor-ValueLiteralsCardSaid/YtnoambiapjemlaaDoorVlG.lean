/- The law ValueValidity, run by the machine. -/
import Derived.Test.YtnoambiapjemlaaDoorVlF
set_option linter.unusedVariables false
set_option linter.unusedSimpArgs false
set_option maxRecDepth 100000
namespace Go.Vm

def validV (v : Val) : Bool := if v.kind = 0 then decide (v.text = []) else if v.kind = 1 then decide (v.n = 0) && decide (v.text.length ≤ 255) else if v.kind = 2 then (decide (v.n = 0) || decide (v.n = 1)) && decide (v.text = []) else false
theorem len255 {l : List UInt8} : decide ((l.length : Int) ≤ 255) = decide (l.length ≤ 255) := by rw [decide_eq_decide]; omega
theorem t15 (v : Val) : calL EE 15 [.st v.row] [] = some (.ret (.bool (validV v)), []) := by
  refine fn_ok f15 (by simp) ?_
  unfold c15 validV
  simp only [go_sem, reduceIte, Nat.reduceEqDiff, Nat.reduceAdd, Nat.reduceLeDiff, Nat.reduceLT, Val.row, decide_eq_true_eq, len255]
  split
  · rfl
  · split
    · rfl
    · split
      · rfl
      · rfl
theorem t23 (v : Val) : calL EE 23 [.st v.row] [] = some (.ret (.bool (validV v)), []) := by
  refine fn_ok f23 (by simp) ?_
  unfold c23 validV
  simp only [go_sem, reduceIte, Nat.reduceEqDiff, Nat.reduceAdd, Nat.reduceLeDiff, Nat.reduceLT, Val.row, decide_eq_true_eq, len255]
  split
  · rfl
  · split
    · rfl
    · split
      · rw [Bool.and_comm]
      · rfl
def n0 : List UInt8 := [73, 78, 84, 69, 71, 69, 82]
def n1 : List UInt8 := [84, 69, 88, 84]
def n2 : List UInt8 := [66, 79, 79, 76, 69, 65, 78]
def nmL : List (List UInt8) := [n0, n1, n2]
def txRow (s : List UInt8) : List SV := [.str s]
theorem ia_tx {s : Slc (List UInt8)} {H : Ob} {k : IntKind} {i : Int} : indexAM (.sl 1) H (.s (s.sv txRow)) (.s (.int k i)) = gd (0 ≤ i ∧ i < s.l.length) (.eptr (s.l.map txRow) i.toNat 0) := ia_sv (fun _ => rfl) (by decide)
def nmS : Slc (List UInt8) := .mk nmL true
theorem t46 : calL EE 46 [] [] = some (.ret (.s (nmS.sv txRow)), []) := cal_run (n := 20) (by kernel_rfl)
def tnm (k : Int) : List UInt8 := if k = 0 then n0 else if k = 1 then n1 else if k = 2 then n2 else []
def ixF : List (List UInt8) → List UInt8 → Nat → Int
  | [], _, _ => -1
  | x :: r, s, i => if x = s then i else ixF r s (i + 1)
theorem ixF_at {s : List UInt8} : ∀ {l : List (List UInt8)} {i j : Nat}, j < l.length → l.getD j [] = s → (∀ m, m < j → l.getD m [] ≠ s) → ixF l s i = ((i + j : Nat) : Int)
  | [], i, j, h, _, _ => by simp at h
  | x :: l, i, 0, _, h, _ => by
    have h : x = s := h
    unfold ixF
    rw [if_pos h]
    rfl
  | x :: l, i, j + 1, hl, h, hp => by
    have h0 : x ≠ s := hp 0 (by omega)
    unfold ixF
    rw [if_neg h0, ixF_at (j := j) (by simpa using hl) (by simpa using h) (fun m hm => by simpa using hp (m + 1) (by omega))]
    congr 1
    omega
theorem ixF_none {s : List UInt8} : ∀ {l : List (List UInt8)} {i : Nat}, (∀ m, m < l.length → l.getD m [] ≠ s) → ixF l s i = -1
  | [], i, _ => rfl
  | x :: l, i, hp => by
    have h0 : x ≠ s := hp 0 (by simp)
    unfold ixF
    rw [if_neg h0, ixF_none (fun m hm => by simpa using hp (m + 1) (by simpa using hm))]
def ix (l : List (List UInt8)) (s : List UInt8) : Int := ixF l s 0
theorem t25 (k : Int) : calL EE 25 [.i64 k] [] = some (.ret (.str (tnm k)), []) := by
  refine fn_ok f25 (by simp) ?_
  unfold c25 tnm
  simp only [go_sem, reduceIte, Nat.reduceEqDiff, Nat.reduceAdd, Nat.reduceLeDiff, Nat.reduceLT, decide_eq_true_eq]
  split
  · rfl
  · split
    · rfl
    · split
      · rfl
      · rfl
theorem t24 (k : Int) : calL EE 24 [.i64 k] [] = some (.ret (.str (tnm k)), []) := by
  refine fn_ok f24 (by simp) ?_
  unfold c24
  simp only [go_sem, reduceIte, Nat.reduceEqDiff, Nat.reduceAdd, Nat.reduceLeDiff, Nat.reduceLT, Bool.or_eq_true, decide_eq_true_eq]
  split
  · unfold tnm
    rw [if_neg (by omega), if_neg (by omega), if_neg (by omega)]
  · refine WC_p rfl rfl t46 ?_
    have hl : nmS.l.length = 3 := rfl
    simp only [go_sem, reduceIte, Nat.reduceEqDiff, Nat.reduceAdd, Nat.reduceLeDiff, Nat.reduceLT, ia_tx, hl]
    rcases (by omega : k = 0 ∨ k = 1 ∨ k = 2) with rfl | rfl | rfl
    · exact ⟨_, rfl, rfl⟩
    · exact ⟨_, rfl, rfl⟩
    · exact ⟨_, rfl, rfl⟩
theorem t45 (l : Slc (List UInt8)) (s : List UInt8) (hb : l.l.length ≤ 1099511627776) : calL EE 45 [.s (l.sv txRow), .str s] [] = some (.ret (.i64 (ix l.l s)), []) := by
  refine fn_ok f45 (by simp) ?_
  unfold c45
  simp only [go_sem, reduceIte, Nat.reduceEqDiff, Nat.reduceAdd, Nat.reduceLeDiff, Nat.reduceLT]
  refine WP_scan rfl 8 l.l.length (fun j => l.l.getD j [] ≠ s) (fun _ _ _ _ => True) rfl trivial ?_ ?_
  · rintro j T' H' n' hlt hf hi _ hp
    have h0 : T' 0 = .s (l.sv txRow) := hf 0 rfl
    have h1 : T' 1 = .str s := hf 1 rfl
    have h7 : T' 7 = .i64 l.l.length := hf 7 rfl
    clear hf
    simp only [go_sem, reduceIte, Nat.reduceEqDiff, Nat.reduceAdd, Nat.reduceLeDiff, Nat.reduceLT, h0, h1, h7, hi, ia_tx, Int.ofNat_lt, hlt, txRow, decide_true, decide_eq_true_eq, wrap_suc (show j < 9223372036854775807 by omega)]
    split
    · rename_i h
      have : ix l.l s = j := by
        unfold ix
        rw [ixF_at hlt h.symm hp]
        simp
      rw [this]
    · rename_i h
      exact fun e => h e.symm
  · rintro T' H' n' hf hi _ hp
    have h7 : T' 7 = .i64 l.l.length := hf 7 rfl
    clear hf
    simp only [go_sem, reduceIte, Nat.reduceEqDiff, Nat.reduceAdd, Nat.reduceLeDiff, Nat.reduceLT, h7, hi, Int.lt_irrefl, decide_false, show ix l.l s = -1 from ixF_none hp]
theorem mx_i {k : IntKind} {a b : Int} : maxMin true (.s (.int k a)) [.s (.int k b)] = some (.s (.int k (max a b))) := by
  simp only [maxMin, if_true]
  congr 3
  split <;> omega
theorem t21 (s : List UInt8) : calL EE 21 [.str s] [] = some (.ret (.tuple [.i64 (max (ix nmL s) 0), .bool (decide (0 ≤ ix nmL s))]), []) := by
  refine fn_ok f21 (by simp) ?_
  unfold c21
  simp only [go_sem, reduceIte, Nat.reduceEqDiff, Nat.reduceAdd, Nat.reduceLeDiff, Nat.reduceLT]
  refine WC_p rfl rfl t46 ?_
  simp only [go_sem, reduceIte, Nat.reduceEqDiff, Nat.reduceAdd, Nat.reduceLeDiff, Nat.reduceLT]
  refine WC_p rfl rfl (t45 nmS s (by decide)) ?_
  simp only [go_sem, reduceIte, Nat.reduceEqDiff, Nat.reduceAdd, Nat.reduceLeDiff, Nat.reduceLT, List.map_cons, List.map_nil, mx_i, own_tuple, ownL_cons, ownL_nil]
  rfl
theorem tnm_at {j : Nat} (h : j < 3) : tnm j = nmL.getD j [] := by
  rcases (by omega : j = 0 ∨ j = 1 ∨ j = 2) with rfl | rfl | rfl <;> rfl
theorem t22 (s : List UInt8) : calL EE 22 [.str s] [] = some (.ret (.tuple [.i64 (max (ix nmL s) 0), .bool (decide (0 ≤ ix nmL s))]), []) := by
  refine fn_ok f22 (by simp) ?_
  unfold c22
  simp only [go_sem, reduceIte, Nat.reduceEqDiff, Nat.reduceAdd, Nat.reduceLeDiff, Nat.reduceLT]
  refine WP_scan rfl 4 3 (fun j => nmL.getD j [] ≠ s) (fun _ _ _ _ => True) rfl trivial ?_ ?_
  · rintro j T' H' n' hlt hf hi _ hp
    have h0 : T' 0 = .str s := hf 0 rfl
    clear hf
    have hd : decide ((j : Int) < 3) = true := by rw [decide_eq_true_eq]; omega
    simp only [go_sem, reduceIte, Nat.reduceEqDiff, Nat.reduceAdd, Nat.reduceLeDiff, Nat.reduceLT, h0, hi, hd]
    refine WC_p rfl rfl (t25 j) ?_
    simp only [go_sem, reduceIte, Nat.reduceEqDiff, Nat.reduceAdd, Nat.reduceLeDiff, Nat.reduceLT, h0, hi, decide_eq_true_eq, own_tuple, ownL_cons, ownL_nil, wrap_suc (show j < 9223372036854775807 by omega), tnm_at hlt]
    split
    · rename_i h
      have e : ix nmL s = j := by
        unfold ix
        rw [ixF_at hlt h hp]
        simp
      rw [e, decide_eq_true (by omega : (0 : Int) ≤ j), Int.max_eq_left (by omega)]
    · rename_i h
      exact h
  · rintro T' H' n' hf hi _ hp
    clear hf
    have hd : decide (((3 : Nat) : Int) < 3) = false := rfl
    simp only [go_sem, reduceIte, Nat.reduceEqDiff, Nat.reduceAdd, Nat.reduceLeDiff, Nat.reduceLT, hi, hd, show ix nmL s = -1 from ixF_none hp, own_tuple, ownL_cons, ownL_nil]
    rfl
theorem t7 (v : Val) (k : Int) (s : List UInt8) (hk : -9223372036854775808 ≤ k ∧ k ≤ 9223372036854775807) (hs : s.length ≤ 9223372036854775807) : ∃ H' n', runL EE 7 [.st v.row, .i64 k, .str s] (Ob.of []) 0 = some (.ret (.bool true), H', n') := by
  refine run_true ?_
  refine fn_run (R := fun v _ _ => v = .bool true) f7 (by simp) ?_
  unfold c7
  simp only [go_sem, reduceIte, Nat.reduceEqDiff, Nat.reduceAdd, Nat.reduceLeDiff, Nat.reduceLT, Val.row]
  refine WC_p rfl rfl awake01 ?_
  simp only [go_sem, reduceIte, Nat.reduceEqDiff, Nat.reduceAdd, Nat.reduceLeDiff, Nat.reduceLT, Val.row]
  split
  · trivial
  · refine WC_p rfl rfl (t21 s) ?_
    simp only [go_sem, reduceIte, Nat.reduceEqDiff, Nat.reduceAdd, Nat.reduceLeDiff, Nat.reduceLT, Val.row, extractV]
    refine WC_p rfl rfl (t22 s) ?_
    simp only [go_sem, reduceIte, Nat.reduceEqDiff, Nat.reduceAdd, Nat.reduceLeDiff, Nat.reduceLT, Val.row, extractV]
    refine WC_p rfl rfl (t15 v) ?_
    simp only [go_sem, reduceIte, Nat.reduceEqDiff, Nat.reduceAdd, Nat.reduceLeDiff, Nat.reduceLT, Val.row]
    refine WC_p rfl rfl (t23 v) ?_
    simp only [go_sem, reduceIte, Nat.reduceEqDiff, Nat.reduceAdd, Nat.reduceLeDiff, Nat.reduceLT, Val.row, beq_self_eq_true]
    refine WC_p rfl rfl (t24 k) ?_
    simp only [go_sem, reduceIte, Nat.reduceEqDiff, Nat.reduceAdd, Nat.reduceLeDiff, Nat.reduceLT, Val.row, beq_self_eq_true]
    refine WC_p rfl rfl (t25 k) ?_
    simp only [go_sem, reduceIte, Nat.reduceEqDiff, Nat.reduceAdd, Nat.reduceLeDiff, Nat.reduceLT, Val.row, beq_self_eq_true, decide_true]
end Go.Vm
