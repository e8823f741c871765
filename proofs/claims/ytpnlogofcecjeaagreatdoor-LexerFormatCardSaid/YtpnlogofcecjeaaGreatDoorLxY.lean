/- Chapter 23: the reference's recognizers. -/
import Derived.Test.YtpnlogofcecjeaaGreatDoorLxX
import Derived.Test.YtpnlogofcecjeaaGreatDoorLxO
import Derived.Test.YtpnlogofcecjeaaGreatDoorLxH
set_option linter.unusedVariables false
set_option linter.unusedSimpArgs false
set_option maxRecDepth 100000
namespace Go.Vm
open Go

/-! ### numbers in decimal -/
theorem dv_acc : ∀ {l : List UInt8} {a : Nat}, l.foldl (fun a c => a * 10 + (c.toNat - 48)) a = a * 10 ^ l.length + dv l
  | [], a => by simp [dv]
  | c :: l, a => by
    have e : dv (c :: l) = l.foldl (fun a c => a * 10 + (c.toNat - 48)) (0 * 10 + (c.toNat - 48)) := rfl
    rw [e, List.foldl_cons, dv_acc, dv_acc, List.length_cons, Nat.pow_succ, Nat.add_mul, Nat.zero_mul, Nat.zero_add, Nat.mul_assoc, Nat.mul_comm 10, Nat.add_assoc]
theorem dv_cons {c : UInt8} {l : List UInt8} : dv (c :: l) = (c.toNat - 48) * 10 ^ l.length + dv l := by
  have e : dv (c :: l) = l.foldl (fun a c => a * 10 + (c.toNat - 48)) (0 * 10 + (c.toNat - 48)) := rfl
  rw [e, dv_acc, Nat.zero_mul, Nat.zero_add]
theorem dig_val {c : UInt8} (h : isDig c = true) : 48 ≤ c.toNat ∧ c.toNat ≤ 57 := by
  unfold isDig at h
  simpa using h
theorem dv_lt : ∀ {l : List UInt8}, l.all isDig = true → dv l < 10 ^ l.length
  | [], _ => by simp [dv]
  | c :: l, h => by
    rw [List.all_cons, Bool.and_eq_true] at h
    have h1 := dig_val h.1
    have h2 := dv_lt h.2
    rw [dv_cons, List.length_cons, Nat.pow_succ]
    have h3 : (c.toNat - 48) * 10 ^ l.length ≤ 9 * 10 ^ l.length := Nat.mul_le_mul_right _ (by omega)
    omega
theorem dv_ge {c : UInt8} {l : List UInt8} (h : isDig c = true) (h0 : c ≠ 48) : 10 ^ l.length ≤ dv (c :: l) := by
  have h1 := dig_val h
  have h4 : c.toNat ≠ 48 := fun e => h0 (UInt8.toNat_inj.1 e)
  rw [dv_cons]
  have h3 : 1 * 10 ^ l.length ≤ (c.toNat - 48) * 10 ^ l.length := Nat.mul_le_mul_right _ (by omega)
  omega
theorem dv_cmp : ∀ {a b : List UInt8}, a.length = b.length → a.all isDig = true → b.all isDig = true → (bytesLt a b = true ↔ dv a < dv b)
  | [], [], _, _, _ => ⟨fun h => (Bool.noConfusion (h : false = true)), fun h => absurd h (Nat.lt_irrefl _)⟩
  | [], y :: b, h, _, _ => by simp at h
  | x :: a, [], h, _, _ => by simp at h
  | x :: a, y :: b, h, ha, hb => by
    rw [List.all_cons, Bool.and_eq_true] at ha hb
    have hl : a.length = b.length := by simpa using h
    have h1 := dig_val ha.1
    have h2 := dig_val hb.1
    have k1 := dv_lt ha.2
    have k2 := dv_lt hb.2
    have ih := dv_cmp hl ha.2 hb.2
    rw [lt_cons, Bool.or_eq_true, Bool.and_eq_true, decide_eq_true_eq, beq_iff_eq, ih, dv_cons, dv_cons, hl]
    rw [hl] at k1
    have e : x < y ↔ x.toNat < y.toNat := Iff.rfl
    rw [e]
    generalize 10 ^ b.length = P at k1 k2
    rcases Nat.lt_trichotomy x.toNat y.toNat with h3 | h3 | h3
    · have h5 : (x.toNat - 48 + 1) * P ≤ (y.toNat - 48) * P := Nat.mul_le_mul_right _ (by omega)
      rw [Nat.add_mul, Nat.one_mul] at h5
      constructor
      · intro _; omega
      · intro _; exact .inl h3
    · have h6 : x = y := UInt8.toNat_inj.1 h3
      subst h6
      constructor
      · rintro (h | h)
        · omega
        · omega
      · intro h; exact .inr ⟨rfl, by omega⟩
    · have h5 : (y.toNat - 48 + 1) * P ≤ (x.toNat - 48) * P := Nat.mul_le_mul_right _ (by omega)
      rw [Nat.add_mul, Nat.one_mul] at h5
      constructor
      · rintro (h | ⟨rfl, h⟩)
        · omega
        · omega
      · intro h; omega
def maxT : List UInt8 := [57, 50, 50, 51, 51, 55, 50, 48, 51, 54, 56, 53, 52, 55, 55, 53, 56, 48, 55]
theorem maxT_dv : dv maxT = 9223372036854775807 := by kernel_rfl
theorem big_iff {t : List UInt8} (ha : t.all isDig = true) (hz : t.length ≤ 1 ∨ t.getD 0 0 ≠ 48) : (19 < t.length ∨ (t.length = 19 ∧ bytesLt maxT t = true)) ↔ 9223372036854775807 < dv t := by
  rcases Nat.lt_trichotomy t.length 19 with h | h | h
  · have h1 := dv_lt ha
    have h2 : 10 ^ t.length ≤ 10 ^ 18 := Nat.pow_le_pow_right (by omega) (by omega)
    have h3 : (10 : Nat) ^ 18 = 1000000000000000000 := by decide
    constructor
    · rintro (h | h) <;> omega
    · intro h; omega
  · rw [dv_cmp (a := maxT) (by rw [h]; rfl) (by kernel_rfl) ha, maxT_dv]
    constructor
    · rintro (h | h)
      · omega
      · exact h.2
    · exact fun h2 => .inr ⟨h, h2⟩
  · cases t with
    | nil => simp at h
    | cons c l =>
      rw [List.all_cons, Bool.and_eq_true] at ha
      have h1 := dv_ge (l := l) ha.1 (hz.resolve_left (by omega))
      rw [List.length_cons] at h
      have h2 : 10 ^ 19 ≤ 10 ^ l.length := Nat.pow_le_pow_right (by omega) (by omega)
      have h3 : (10 : Nat) ^ 19 = 10000000000000000000 := by decide
      constructor
      · intro _; omega
      · intro _; exact .inl (by rw [List.length_cons]; omega)
theorem zs_eq {b : UInt8} {r : List UInt8} : (b :: r).dropWhile (fun c : UInt8 => decide (c = 48)) = if b = 48 then r.dropWhile (fun c => decide (c = 48)) else b :: r := by
  rw [List.dropWhile_cons]
  by_cases h : b = 48
  · rw [if_pos h, if_pos (decide_eq_true h)]
  · rw [if_neg h, if_neg (by simpa using h)]
theorem digT_z {r : List UInt8} (h : r ≠ []) : digT (48 :: r) = digT r := by
  unfold digT
  rw [zs_eq, if_pos rfl]
theorem digT_one {b : UInt8} : digT [b] = [b] := by
  unfold digT
  rw [zs_eq]
  by_cases h : b = 48
  · subst h; rfl
  · rw [if_neg h, if_neg (by simp)]
theorem digT_self {b : UInt8} {r : List UInt8} (h : b ≠ 48) : digT (b :: r) = b :: r := by
  unfold digT
  rw [zs_eq, if_neg h, if_neg (by simp)]
/-! ### bytes -/
theorem refDigit_ok (b : UInt8) : calL EE 15 [u8 b] [] = some (.ret (.bool (isDig b)), []) := by
  refine fn_ok f15 (by simp) ?_
  unfold c15 isDig
  simp only [go_sem, reduceIte, Nat.reduceEqDiff, Nat.reduceAdd, Nat.reduceLeDiff, Nat.reduceLT]
  have h1 : decide ((48 : Int) ≤ b.toNat) = decide (48 ≤ b.toNat) := decide_eq_decide.2 (by omega)
  have h2 : decide ((b.toNat : Int) ≤ 57) = decide (b.toNat ≤ 57) := decide_eq_decide.2 (by omega)
  rw [h1, h2]
theorem refKw_ok (s : List UInt8) (hs : s.length ≤ 1000000) : calL EE 55 [.str s] [] = some (.ret (.bool (isKw s)), []) := by
  refine fn_ok f55 (by simp) ?_
  unfold c55
  simp only [go_sem, reduceIte, Nat.reduceEqDiff, Nat.reduceAdd, Nat.reduceLeDiff, Nat.reduceLT]
  refine WC_p rfl rfl refKw_all ?_
  simp only [go_sem, reduceIte, Nat.reduceEqDiff, Nat.reduceAdd, Nat.reduceLeDiff, Nat.reduceLT]
  refine WC_p rfl rfl (refUpper_ok s hs) ?_
  simp only [go_sem, reduceIte, Nat.reduceEqDiff, Nat.reduceAdd, Nat.reduceLeDiff, Nat.reduceLT]
  refine WC_p rfl rfl (refIn_ok kwL _ (by rw [kw_len]; omega)) ?_
  simp only [go_sem, reduceIte, Nat.reduceEqDiff, Nat.reduceAdd, Nat.reduceLeDiff, Nat.reduceLT, isKw]
end Go.Vm
