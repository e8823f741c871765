/- Numbers and texts read back: codec.Uint and codec.String. -/
import Derived.Test.YtfgkhgkgaedcmaaGreatCbR
set_option linter.unusedVariables false
set_option linter.unusedSimpArgs false
set_option maxRecDepth 100000
namespace Go.Vm

def uvD : Nat → Nat → List UInt8 → Option (Nat × Nat)
  | _, _, [] => none
  | i, acc, x :: r => if 10 ≤ i then none else if i = 9 ∧ 1 < x.toNat then none else
    if x.toNat < 128 then if x.toNat = 0 ∧ 0 < i then none else some (acc + (x.toNat % 128) * 128 ^ i, i + 1)
    else uvD (i + 1) (acc + (x.toNat % 128) * 128 ^ i) r
def Slc.cut {α : Type} (a b : Nat) : Slc α → Slc α
  | .nil => .nil
  | .mk l full => .mk ((l.take b).drop a) (full && decide (b = l.length))
theorem Slc.cut_l {α : Type} {a b : Nat} (s : Slc α) : (s.cut a b).l = (s.l.take b).drop a := by
  cases s with
  | nil => simp [Slc.cut, Slc.l]
  | mk l full => rfl
theorem slice_sv {α : Type} {f : α → List SV} {s : Slc α} {k : Nat} {H : Ob} {lo hi : Option PV} (hf : ∀ x, (f x).length = k) (hk : 0 < k) : sliceM (.sl k) H (.s (s.sv f)) lo hi = bnd (bounds s.l.length lo hi) fun r => some (.s ((s.cut r.1 r.2).sv f)) := by
  cases s with
  | nil =>
    simp only [Slc.sv, Slc.l, sliceM, List.length_nil]
    cases bounds 0 lo hi <;> rfl
  | mk l full =>
    have h1 : (l.map f).all (fun c => decide (c.length = k)) = true := List.all_eq_true.2 fun c hc => by
      obtain ⟨x, _, rfl⟩ := List.mem_map.1 hc
      exact decide_eq_true (hf x)
    simp only [Slc.sv, Slc.l, sliceM, List.length_map]
    cases hb : bounds l.length lo hi with
    | none => rfl
    | some r =>
      simp only [h1, hk, and_self, if_true, bnd_some, Slc.cut, List.map_drop, List.map_take]
theorem sl_bytes {s : Slc UInt8} {H : Ob} {lo hi : Option PV} : sliceM (.sl 1) H (.s (s.sv bRow)) lo hi = bnd (bounds s.l.length lo hi) fun r => some (.s ((s.cut r.1 r.2).sv bRow)) := slice_sv (fun _ => rfl) (by decide)
theorem bytesOf_map (l : List UInt8) : bytesOf (l.map bRow) = some l := by
  induction l with
  | nil => rfl
  | cons a l ih =>
    show (match bytesOf (l.map bRow) with | some q => some (UInt8.ofNat ((a.toNat : Int)).toNat :: q) | none => none) = _
    rw [ih]
    simp
theorem conv_text {s : Slc UInt8} {H : Ob} {n : Nat} : convM (.str true) H n (.s (s.sv bRow)) = some (.s (.str s.l), H) := by
  cases s with
  | nil => rfl
  | mk l full => simp only [Slc.sv, Slc.l, convM, bytesOf_map]
def uintR : Option (Nat × Nat) → PV
  | some (n, k) => .tuple [.s (.int .u64 n), .i64 k, .i64 0]
  | none => .tuple [.s (.int .u64 0), .i64 0, .i64 12]
theorem low_and : ∀ x : Nat, x < 256 → (BitVec.ofInt 8 (x : Int) &&& BitVec.ofInt 8 127).toNat = x % 128 := by decide
theorem or_add (acc y s : Nat) (ha : acc < 2 ^ s) (hy : (y + 1) * 2 ^ s ≤ 18446744073709551616) : IntKind.u64.wrap ((BitVec.ofInt 64 (acc : Int) ||| BitVec.ofInt 64 ((y * 2 ^ s : Nat) : Int)).toNat) = ((acc + y * 2 ^ s : Nat) : Int) := by
  rw [Nat.succ_mul] at hy
  have toN : ∀ a : Nat, a < 18446744073709551616 → (BitVec.ofInt 64 (a : Int)).toNat = a := fun a ha => by
    rw [BitVec.toNat_ofInt]
    show ((a : Int) % 18446744073709551616).toNat = a
    omega
  rw [BitVec.toNat_or, toN acc (by omega), toN (y * 2 ^ s) (by omega), Nat.or_comm, Nat.mul_comm y, ← Nat.two_pow_add_eq_or_of_lt ha]
  rw [Nat.mul_comm y] at hy
  rw [u64_nat (by omega), Nat.add_comm]
theorem uint_step (acc i x : Nat) (ha : acc < 128 ^ i) (hx : x < 256) (hi : i < 10) (h9 : i = 9 → x ≤ 1) : IntKind.u64.wrap ((BitVec.ofInt 64 (acc : Int) ||| BitVec.ofInt 64 (IntKind.u64.wrap (IntKind.u64.wrap (IntKind.u8.wrap ((BitVec.ofInt 8 (x : Int) &&& BitVec.ofInt 8 127).toNat)) * 2 ^ min (IntKind.i64.wrap (7 * (i : Int))).toNat 64))).toNat) = ((acc + x % 128 * 128 ^ i : Nat) : Int) := by
  have e1 : IntKind.u8.wrap (((x % 128 : Nat)) : Int) = ((x % 128 : Nat) : Int) := by
    show ((x % 128 : Nat) : Int) % 256 = _
    omega
  have e2 : IntKind.i64.wrap (7 * (i : Int)) = ((7 * i : Nat) : Int) := by
    rw [wrap_in (by omega) (by omega)]
    omega
  have e3 : (128 : Nat) ^ i = 2 ^ (7 * i) := by rw [Nat.pow_mul]
  rw [low_and x hx, e1, u64_nat (n := x % 128) (by omega), e2, Int.toNat_natCast, Nat.min_eq_left (by omega), e3]
  rw [e3] at ha
  have hy : (x % 128 + 1) * 2 ^ (7 * i) ≤ 18446744073709551616 := by
    by_cases h : i = 9
    · have := h9 h
      subst h
      have : x % 128 ≤ 1 := by omega
      show (x % 128 + 1) * 9223372036854775808 ≤ _
      omega
    · have h1 : 2 ^ (7 * i) ≤ 2 ^ 56 := Nat.pow_le_pow_right (by decide) (by omega)
      have h2 : x % 128 + 1 ≤ 128 := by omega
      exact Nat.le_trans (Nat.mul_le_mul h2 h1) (by decide)
  have e4 : ((x % 128 : Nat) : Int) * 2 ^ (7 * i) = ((x % 128 * 2 ^ (7 * i) : Nat) : Int) := by
    rw [Int.natCast_mul, Int.natCast_pow]
    rfl
  rw [e4, u64_nat (n := x % 128 * 2 ^ (7 * i)) (by rw [Nat.succ_mul] at hy; omega)]
  exact or_add _ _ _ ha hy
theorem decUint (s : Slc UInt8) (hl : s.l.length ≤ 1073741824) : calL EE 66 [.s (s.sv bRow)] [] = some (.ret (uintR (uvD 0 0 s.l)), []) := by
  refine fn_ok f66 (by simp) ?_
  unfold c66
  simp only [go_sem, reduceIte, Nat.reduceEqDiff, Nat.reduceAdd, Nat.reduceLeDiff, Nat.reduceLT]
  refine WP_loop rfl (fun k T H n => ∃ i acc, i + k = 10 ∧ T 0 = .s (s.sv bRow) ∧ T 6 = .i64 i ∧ T 5 = .s (.int .u64 (acc : Nat)) ∧ acc < 128 ^ i ∧ i ≤ s.l.length ∧ uvD 0 0 s.l = uvD i acc (s.l.drop i)) (k0 := 10) ⟨0, 0, rfl, rfl, rfl, rfl, by simp, by omega, rfl⟩ ?_
  rintro k T' H' n' hf ⟨i, acc, hk, h0, h6, h5, ha, hi, he⟩
  clear hf
  rw [he]
  by_cases hlt : i < s.l.length ∧ i < 10
  · have d1 : decide (i < s.l.length) = true := decide_eq_true hlt.1
    have d2 : decide ((i : Int) < 10) = true := decide_eq_true (by omega)
    have hlt1 := hlt.1
    simp only [go_sem, reduceIte, Nat.reduceEqDiff, Nat.reduceAdd, Nat.reduceLeDiff, Nat.reduceLT, h0, h6, h5, Int.ofNat_lt, d1, d2, hlt1, ia_byte, bRow]
    have hd : s.l.drop i = s.l.getD i 0 :: s.l.drop (i + 1) := by
      rw [List.drop_eq_getElem_cons hlt1, List.getD_eq_getElem?_getD, List.getElem?_eq_getElem hlt1]
      rfl
    have hu : uvD i acc (s.l.drop i) = if i = 9 ∧ 1 < (s.l.getD i 0).toNat then none else if (s.l.getD i 0).toNat < 128 then if (s.l.getD i 0).toNat = 0 ∧ 0 < i then none else some (acc + ((s.l.getD i 0).toNat % 128) * 128 ^ i, i + 1) else uvD (i + 1) (acc + ((s.l.getD i 0).toNat % 128) * 128 ^ i) (s.l.drop (i + 1)) := by
      rw [hd, uvD, if_neg (show ¬ 10 ≤ i by omega)]
    rw [hu]
    clear hu hd he
    have hx : (s.l.getD i 0).toNat < 256 := UInt8.toNat_lt _
    generalize s.l.getD i 0 = x at hx
    simp only [decide_true, if_true]
    split
    · rename_i h
      simp only [Bool.and_eq_true, decide_eq_true_eq] at h
      rw [if_pos (show i = 9 ∧ 1 < x.toNat by omega)]
      rfl
    · rename_i h
      simp only [Bool.and_eq_true, decide_eq_true_eq] at h
      rw [if_neg (show ¬ (i = 9 ∧ 1 < x.toNat) by omega), wrap_in (x := 7 * (i : Int)) (by omega) (by omega)]
      refine ⟨by omega, by omega, ?_⟩
      have us := uint_step acc i x.toNat ha hx hlt.2 (by omega)
      rw [wrap_in (x := 7 * (i : Int)) (by omega) (by omega)] at us
      erw [us]
      rw [wrap_succ (show i < 4611686018427387904 by omega)]
      split
      · rename_i h2
        simp only [decide_eq_true_eq] at h2
        rw [if_pos (show x.toNat < 128 by omega)]
        split
        · rename_i h3
          simp only [Bool.and_eq_true, decide_eq_true_eq] at h3
          rw [if_pos (show x.toNat = 0 ∧ 0 < i by omega)]
          rfl
        · rename_i h3
          simp only [Bool.and_eq_true, decide_eq_true_eq] at h3
          rw [if_neg (show ¬ (x.toNat = 0 ∧ 0 < i) by omega)]
          rfl
      · rename_i h2
        simp only [decide_eq_true_eq] at h2
        rw [if_neg (show ¬ x.toNat < 128 by omega)]
        refine ⟨k - 1, by omega, i + 1, acc + x.toNat % 128 * 128 ^ i, by omega, rfl, rfl, ?_, by omega, rfl⟩
        have : x.toNat % 128 + 1 ≤ 128 := by omega
        have := Nat.mul_le_mul_right (128 ^ i) this
        rw [Nat.succ_mul] at this
        rw [Nat.pow_succ, Nat.mul_comm _ 128]
        omega
  · have : uvD i acc (s.l.drop i) = none := by
      by_cases h : i < s.l.length
      · rw [List.drop_eq_getElem_cons h, uvD, if_pos (by omega)]
      · rw [List.drop_eq_nil_of_le (by omega)]
        rfl
    rw [this]
    have d : (decide (i < s.l.length) && decide ((i : Int) < 10)) = false := by
      rw [Bool.and_eq_false_iff, decide_eq_false_iff_not, decide_eq_false_iff_not]
      omega
    simp only [go_sem, reduceIte, Nat.reduceEqDiff, Nat.reduceAdd, Nat.reduceLeDiff, Nat.reduceLT, h0, h6, Int.ofNat_lt, d, uintR]
def dStr (l : List UInt8) : Option (List UInt8 × Nat) :=
  match uvD 0 0 l with
  | some (n, k) => if n + k ≤ l.length then some ((l.drop k).take n, k + n) else none
  | none => none
def strR : Option (List UInt8 × Nat) → PV
  | some (t, k) => .tuple [.s (.str t), .i64 k, .i64 0]
  | none => .tuple [.s (.str []), .i64 0, .i64 12]
theorem uvD_le : ∀ {i acc l n k}, uvD i acc l = some (n, k) → i < k ∧ k ≤ i + l.length ∧ k ≤ 10
  | _, _, [], _, _, h => by simp [uvD] at h
  | i, acc, x :: r, n, k, h => by
    rw [uvD] at h
    split at h
    · cases h
    · split at h
      · cases h
      · split at h
        · split at h
          · cases h
          · injection h with h
            injection h with h1 h2
            subst h2
            simp only [List.length_cons]
            omega
        · obtain ⟨h1, h2, h3⟩ := uvD_le h
          simp only [List.length_cons]
          omega
theorem uvD_lt : ∀ {i acc l n k}, acc < 128 ^ i → uvD i acc l = some (n, k) → n < 18446744073709551616
  | _, _, [], _, _, _, h => by simp [uvD] at h
  | i, acc, x :: r, n, k, ha, h => by
    rw [uvD] at h
    split at h
    · cases h
    · rename_i h10
      split at h
      · cases h
      · rename_i h9
        have step : acc + x.toNat % 128 * 128 ^ i < 128 ^ (i + 1) := by
          have : x.toNat % 128 + 1 ≤ 128 := by omega
          have := Nat.mul_le_mul_right (128 ^ i) this
          rw [Nat.succ_mul] at this
          rw [Nat.pow_succ, Nat.mul_comm _ 128]
          omega
        split at h
        · split at h
          · cases h
          · injection h with h
            injection h with h1 h2
            subst h1
            by_cases h9' : i = 9
            · subst h9'
              have : x.toNat % 128 ≤ 1 := by omega
              have ha : acc < 9223372036854775808 := ha
              show acc + x.toNat % 128 * 9223372036854775808 < _
              omega
            · have h1 : 128 ^ (i + 1) ≤ 128 ^ 9 := Nat.pow_le_pow_right (by decide) (by omega)
              have h2 : (128 : Nat) ^ 9 < 18446744073709551616 := by decide
              omega
        · exact uvD_lt step h
theorem decStr (s : Slc UInt8) (hl : s.l.length ≤ 1073741824) : calL EE 97 [.s (s.sv bRow)] [] = some (.ret (strR (dStr s.l)), []) := by
  refine fn_ok f97 (by simp) ?_
  unfold c97
  simp only [go_sem, reduceIte, Nat.reduceEqDiff, Nat.reduceAdd, Nat.reduceLeDiff, Nat.reduceLT]
  refine WC_p rfl rfl (decUint s hl) ?_
  unfold dStr
  cases hu : uvD 0 0 s.l with
  | none => simp only [go_sem, reduceIte, Nat.reduceEqDiff, Nat.reduceAdd, Nat.reduceLeDiff, Nat.reduceLT, uintR, extractV, List.getElem?_cons_succ, List.getElem?_cons_zero, decide_false, Bool.not_false, Bool.true_or, strR, show ((12 : Int) = 0) = False from by simp]
  | some r =>
    obtain ⟨n, k⟩ := r
    obtain ⟨k1, k2, k3⟩ := uvD_le hu
    have hn := uvD_lt (by decide) hu
    have c1 : ((s.l.length : Int) - (k : Int)) = ((s.l.length - k : Nat) : Int) := by omega
    simp only [go_sem, reduceIte, Nat.reduceEqDiff, Nat.reduceAdd, Nat.reduceLeDiff, Nat.reduceLT, uintR, extractV, List.getElem?_cons_succ, List.getElem?_cons_zero, c1, decide_true, Bool.not_true, Bool.false_or]
    rw [wrap_in (x := ((s.l.length - k : Nat) : Int)) (by omega) (by omega), u64_nat (by omega)]
    split
    · rename_i h
      simp only [decide_eq_true_eq] at h
      rw [gd, if_neg (show ¬ n + k ≤ s.l.length by omega)]
      rfl
    · rename_i h
      simp only [decide_eq_true_eq] at h
      have h2 : n + k ≤ s.l.length := by omega
      rw [gd, if_pos h2, wrap_in (x := (n : Int)) (by omega) (by omega), wrap_in (x := (k : Int) + n) (by omega) (by omega)]
      simp only [go_sem, reduceIte, Nat.reduceEqDiff, Nat.reduceAdd, Nat.reduceLeDiff, Nat.reduceLT, sl_bytes, conv_text, Slc.cut_l, strR]
      refine ⟨⟨by omega, by omega⟩, ?_⟩
      rw [show ((k : Int) + n).toNat = k + n by omega, List.drop_take, Nat.add_sub_cancel_left, show ((k : Int) + n) = ((k + n : Nat) : Int) by omega]
theorem uvD_uvF : ∀ (j i acc m : Nat) (r : List UInt8), i + j = 9 → m < 128 ^ (j + 1) → m * 128 ^ i < 18446744073709551616 → (0 < m ∨ i = 0) → uvD i acc (uvF j m ++ r) = some (acc + m * 128 ^ i, i + (uvF j m).length)
  | 0, i, acc, m, r, hi, h1, h2, h3 => by
    have h9 : i = 9 := by omega
    subst h9
    have h2 : m * 9223372036854775808 < 18446744073709551616 := h2
    have hm : m ≤ 1 := by omega
    have e : (UInt8.ofNat m).toNat = m := by simp; omega
    show uvD 9 acc (UInt8.ofNat m :: r) = _
    rw [uvD, e, if_neg (by omega), if_neg (by omega), if_pos (by omega), if_neg (by omega), Nat.mod_eq_of_lt (by omega)]
    rfl
  | j + 1, i, acc, m, r, hi, h1, h2, h3 => by
    by_cases hm : m < 128
    · have e : (UInt8.ofNat m).toNat = m := by simp; omega
      rw [uvF, if_pos hm]
      show uvD i acc (UInt8.ofNat m :: r) = _
      rw [uvD, e, if_neg (by omega), if_neg (by omega), if_pos (by omega), if_neg (by omega), Nat.mod_eq_of_lt (by omega)]
      rfl
    · have e : (UInt8.ofNat (m % 128 + 128)).toNat = m % 128 + 128 := by simp; omega
      have hdm := Nat.div_add_mod m 128
      have hp : m * 128 ^ i = m / 128 * 128 ^ (i + 1) + m % 128 * 128 ^ i := by
        rw [Nat.pow_succ, Nat.mul_comm (128 ^ i) 128, ← Nat.mul_assoc, ← Nat.add_mul, Nat.mul_comm (m / 128) 128, hdm]
      rw [uvF, if_neg hm, List.cons_append, uvD, e, if_neg (by omega), if_neg (by omega), if_neg (by omega)]
      rw [show (m % 128 + 128) % 128 = m % 128 by omega]
      rw [uvD_uvF j (i + 1) _ (m / 128) r (by omega) (Nat.div_lt_of_lt_mul (by rw [Nat.pow_succ, Nat.mul_comm] at h1; exact h1)) (by omega) (.inl (by omega))]
      rw [hp, List.length_cons]
      congr 2
      · omega
      · omega
/-- A number that was written is read back. -/
theorem uvD_uvE {m : Nat} (h : m < 18446744073709551616) (r : List UInt8) : uvD 0 0 (uvE m ++ r) = some (m, (uvE m).length) := by
  have := uvD_uvF 9 0 0 m r rfl (Nat.lt_of_lt_of_le h (by decide)) (by omega) (.inr rfl)
  rw [show uvE m = uvF 9 m from rfl, this]
  simp
theorem dStr_encS {t : List UInt8} (h : t.length ≤ 1073741824) (r : List UInt8) : dStr (encS t ++ r) = some (t, (encS t).length) := by
  unfold dStr encS
  rw [List.append_assoc, uvD_uvE (by omega)]
  simp only [List.length_append]
  rw [if_pos (by omega), List.drop_left, List.take_left]
end Go.Vm
