/- Chapter 23: rules that the texts need; the small functions. -/
import Derived.Test.YtpnlogofcecjeaaGreatDoorLxZ
set_option linter.unusedVariables false
set_option linter.unusedSimpArgs false
set_option maxRecDepth 100000
namespace Go.Vm
open Go

theorem WV_s {E : Env} {dr : Bool} {g : FuncId} {args : List PV} {H : Ob} {n : Nat} {d T r Q} (h : WCs E dr g args H n d T r Q) : WVs E dr (.s (.func g)) args H n d T r Q := by
  obtain ⟨v, H1, n1, h1, h2⟩ := h
  exact ⟨(g, [], []), rfl, v, H1, n1, by simpa using h1, h2⟩
theorem wrap_suc {j : Nat} (h : j < 9223372036854775807) : IntKind.i64.wrap ((j : Int) + 1) = ((j + 1 : Nat) : Int) := by
  rw [wrap_in (by omega) (by omega)]
  omega
theorem wrap_add {i j : Nat} (h : i + j ≤ 9223372036854775807) : IntKind.i64.wrap ((i : Int) + (j : Int)) = ((i + j : Nat) : Int) := by
  rw [wrap_in (by omega) (by omega)]
  omega
theorem u8i {b : UInt8} {k : Nat} (h : k < 256) : (b.toNat : Int) = (k : Nat) ↔ b = UInt8.ofNat k := by
  constructor
  · intro e
    apply UInt8.toNat_inj.1
    rw [UInt8.toNat_ofNat']
    omega
  · intro e
    rw [e, UInt8.toNat_ofNat']
    omega
theorem u8d {b : UInt8} {k : Nat} (h : k < 256) : decide ((b.toNat : Int) = (k : Nat)) = decide (b = UInt8.ofNat k) := decide_eq_decide.2 (u8i h)
theorem cut1 {l : List UInt8} {j : Nat} (h : j < l.length) : (l.take (j + 1)).drop j = [l.getD j 0] := by
  rw [take_step 0 h, List.drop_append, List.length_take, Nat.min_eq_left (by omega), Nat.sub_self, List.drop_zero, List.drop_of_length_le (by rw [List.length_take]; omega)]
  rfl
theorem drop_get {m : List UInt8} {i : Nat} (hi : i < m.length) : m.drop i = m.getD i 0 :: m.drop (i + 1) := by
  rw [List.drop_eq_getElem_cons hi, List.getD_eq_getElem?_getD, List.getElem?_eq_getElem hi]; rfl
abbrev u8 (b : UInt8) : PV := .s (.int .u8 (b.toNat : Int))
theorem forall_u8 {P : UInt8 → Prop} (h : ∀ n : Nat, n < 256 → P (UInt8.ofNat n)) (b : UInt8) : P b := by
  have := h b.toNat (by have := b.toNat_lt; omega)
  rwa [UInt8.ofNat_toNat] at this
/-! ### bytes -/
def isBl (b : UInt8) : Bool := decide (b = 32) || decide (b = 9) || decide (b = 10) || decide (b = 13)
def isLet (b : UInt8) : Bool := (decide (65 ≤ b.toNat) && decide (b.toNat ≤ 90)) || (decide (97 ≤ b.toNat) && decide (b.toNat ≤ 122))
def isDig (b : UInt8) : Bool := decide (48 ≤ b.toNat) && decide (b.toNat ≤ 57)
def isWd (b : UInt8) : Bool := isLet b || isDig b || decide (b = 95)
def isNl (b : UInt8) : Bool := !decide (b = 10)
def isNq (b : UInt8) : Bool := !decide (b = 39)
def orI (k : IntKind) (a b : Int) : Int := k.wrap ((BitVec.ofInt k.bits a ||| BitVec.ofInt k.bits b).toNat)
theorem bi_or {k : IntKind} {a b : Int} : binM .or .num (.s (.int k a)) (.s (.int k b)) = some (.s (.int k (orI k a b))) := by simp [binM, binInt, orI]
theorem let_or (b : UInt8) : (decide (97 ≤ orI .u8 (b.toNat : Int) 32) && decide (orI .u8 (b.toNat : Int) 32 ≤ 122)) = isLet b := by
  refine forall_u8 (P := fun b => (decide (97 ≤ orI .u8 (b.toNat : Int) 32) && decide (orI .u8 (b.toNat : Int) 32 ≤ 122)) = isLet b) ?_ b
  have h : ((List.range 256).all fun n => (decide (97 ≤ orI .u8 ((UInt8.ofNat n).toNat : Int) 32) && decide (orI .u8 ((UInt8.ofNat n).toNat : Int) 32 ≤ 122)) == isLet (UInt8.ofNat n)) = true := by kernel_rfl
  intro n hn
  exact eq_of_beq (List.all_eq_true.1 h n (List.mem_range.2 hn))
theorem letter_ok (b : UInt8) : calL EE 47 [u8 b] [] = some (.ret (.bool (isLet b)), []) := by
  refine fn_ok f47 (by simp) ?_
  unfold c47
  simp only [go_sem, reduceIte, Nat.reduceEqDiff, Nat.reduceAdd, Nat.reduceLeDiff, Nat.reduceLT, bi_or, let_or]
theorem digit_ok (b : UInt8) : calL EE 49 [u8 b] [] = some (.ret (.bool (isDig b)), []) := by
  refine fn_ok f49 (by simp) ?_
  unfold c49 isDig
  simp only [go_sem, reduceIte, Nat.reduceEqDiff, Nat.reduceAdd, Nat.reduceLeDiff, Nat.reduceLT]
  have h1 : decide ((48 : Int) ≤ b.toNat) = decide (48 ≤ b.toNat) := decide_eq_decide.2 (by omega)
  have h2 : decide ((b.toNat : Int) ≤ 57) = decide (b.toNat ≤ 57) := decide_eq_decide.2 (by omega)
  rw [h1, h2]
theorem blank_ok (b : UInt8) : calL EE 44 [u8 b] [] = some (.ret (.bool (isBl b)), []) := by
  refine fn_ok f44 (by simp) ?_
  unfold c44 isBl
  simp only [go_sem, reduceIte, Nat.reduceEqDiff, Nat.reduceAdd, Nat.reduceLeDiff, Nat.reduceLT]
  rw [show decide ((b.toNat : Int) = 32) = decide (b = 32) from u8d (k := 32) (by omega), show decide ((b.toNat : Int) = 9) = decide (b = 9) from u8d (k := 9) (by omega), show decide ((b.toNat : Int) = 10) = decide (b = 10) from u8d (k := 10) (by omega), show decide ((b.toNat : Int) = 13) = decide (b = 13) from u8d (k := 13) (by omega)]
theorem line_ok (b : UInt8) : calL EE 46 [u8 b] [] = some (.ret (.bool (isNl b)), []) := by
  refine fn_ok f46 (by simp) ?_
  unfold c46 isNl
  simp only [go_sem, reduceIte, Nat.reduceEqDiff, Nat.reduceAdd, Nat.reduceLeDiff, Nat.reduceLT]
  rw [show decide ((b.toNat : Int) = 10) = decide (b = 10) from u8d (k := 10) (by omega)]
theorem quot_ok (b : UInt8) : calL EE 53 [u8 b] [] = some (.ret (.bool (isNq b)), []) := by
  refine fn_ok f53 (by simp) ?_
  unfold c53 isNq
  simp only [go_sem, reduceIte, Nat.reduceEqDiff, Nat.reduceAdd, Nat.reduceLeDiff, Nat.reduceLT]
  rw [show decide ((b.toNat : Int) = 39) = decide (b = 39) from u8d (k := 39) (by omega)]
theorem inWord_ok (b : UInt8) : calL EE 48 [u8 b] [] = some (.ret (.bool (isWd b)), []) := by
  refine fn_ok f48 (by simp) ?_
  unfold c48 isWd
  simp only [go_sem, reduceIte, Nat.reduceEqDiff, Nat.reduceAdd, Nat.reduceLeDiff, Nat.reduceLT]
  refine WC_p rfl rfl (letter_ok b) ?_
  simp only [go_sem, reduceIte, Nat.reduceEqDiff, Nat.reduceAdd, Nat.reduceLeDiff, Nat.reduceLT]
  have e : decide ((b.toNat : Int) = 95) = decide (b = 95) := u8d (k := 95) (by omega)
  cases h : isLet b with
  | true => simp only [go_sem, reduceIte, Nat.reduceEqDiff, Nat.reduceAdd, Nat.reduceLeDiff, Nat.reduceLT, e, h, Bool.true_or]
  | false =>
    simp only [go_sem, reduceIte, Nat.reduceEqDiff, Nat.reduceAdd, Nat.reduceLeDiff, Nat.reduceLT, e, h]
    refine WC_p rfl rfl (digit_ok b) ?_
    simp only [go_sem, reduceIte, Nat.reduceEqDiff, Nat.reduceAdd, Nat.reduceLeDiff, Nat.reduceLT, e, h, Bool.false_or]
/-! ### span -/
def spn (p : UInt8 → Bool) (s : List UInt8) : Nat := (s.takeWhile p).length
theorem spn_nil {p} : spn p [] = 0 := rfl
theorem spn_cons {p : UInt8 → Bool} {b : UInt8} {s : List UInt8} : spn p (b :: s) = if p b = true then spn p s + 1 else 0 := by
  unfold spn
  rw [List.takeWhile_cons]
  split <;> rfl
theorem spn_le {p : UInt8 → Bool} : ∀ {s : List UInt8}, spn p s ≤ s.length
  | [] => Nat.le_refl _
  | b :: s => by
    rw [spn_cons]
    have := @spn_le p s
    split <;> simp <;> omega
theorem spn_in {p : UInt8 → Bool} : ∀ {s : List UInt8} {j : Nat}, j < spn p s → p (s.getD j 0) = true
  | [], j, h => by rw [spn_nil] at h; omega
  | b :: s, j, h => by
    rw [spn_cons] at h
    split at h
    · cases j with
      | zero => assumption
      | succ j => exact spn_in (s := s) (j := j) (by omega)
    · omega
theorem spn_out {p : UInt8 → Bool} : ∀ {s : List UInt8}, spn p s < s.length → p (s.getD (spn p s) 0) = false
  | [], h => by simp [spn] at h
  | b :: s, h => by
    rw [spn_cons] at h ⊢
    split
    · rename_i hp
      rw [if_pos hp, List.length_cons] at h
      exact spn_out (s := s) (by omega)
    · rename_i hp
      simpa using hp
theorem spn_drop {p : UInt8 → Bool} : ∀ {s : List UInt8}, s.drop (spn p s) = s.dropWhile p
  | [] => rfl
  | b :: s => by
    rw [spn_cons, List.dropWhile_cons]
    split
    · exact spn_drop
    · rfl
theorem spn_take {p : UInt8 → Bool} : ∀ {s : List UInt8}, s.take (spn p s) = s.takeWhile p
  | [] => rfl
  | b :: s => by
    rw [spn_cons, List.takeWhile_cons]
    split
    · rw [List.take_succ_cons, spn_take]
    · rfl
theorem span_ok {g : FuncId} {p : UInt8 → Bool} (hg : ∀ b : UInt8, calL EE g [u8 b] [] = some (.ret (.bool (p b)), [])) (s : List UInt8) (hs : s.length ≤ 1000000) : calL EE 43 [.str s, .s (.func g)] [] = some (.ret (.i64 (spn p s)), []) := by
  refine fn_ok f43 (by simp) ?_
  unfold c43
  simp only [go_sem, reduceIte, Nat.reduceEqDiff, Nat.reduceAdd, Nat.reduceLeDiff, Nat.reduceLT]
  have hle := @spn_le p s
  refine WP_scan rfl 5 (spn p s) (fun _ => True) (fun _ _ _ _ => True) rfl trivial ?_ ?_
  · rintro j T' H' n' hlt hf hi _ _
    have h0 : T' 0 = .str s := hf 0 rfl
    have h1 : T' 1 = .s (.func g) := hf 1 rfl
    clear hf
    have hj : j < s.length := by omega
    have hp := spn_in hlt
    simp only [go_sem, reduceIte, Nat.reduceEqDiff, Nat.reduceAdd, Nat.reduceLeDiff, Nat.reduceLT, h0, h1, hi, Int.ofNat_lt, hj, decide_true, Int.toNat_natCast]
    refine WV_s (WC_p rfl rfl (hg _) ?_)
    simp only [go_sem, reduceIte, Nat.reduceEqDiff, Nat.reduceAdd, Nat.reduceLeDiff, Nat.reduceLT, h0, h1, hi, hp, wrap_suc (show j < 9223372036854775807 by omega)]
  · rintro T' H' n' hf hi _ _
    have h0 : T' 0 = .str s := hf 0 rfl
    have h1 : T' 1 = .s (.func g) := hf 1 rfl
    clear hf
    by_cases hj : spn p s < s.length
    · have hp := spn_out hj
      simp only [go_sem, reduceIte, Nat.reduceEqDiff, Nat.reduceAdd, Nat.reduceLeDiff, Nat.reduceLT, h0, h1, hi, Int.ofNat_lt, hj, decide_true, Int.toNat_natCast]
      refine WV_s (WC_p rfl rfl (hg _) ?_)
      simp only [go_sem, reduceIte, Nat.reduceEqDiff, Nat.reduceAdd, Nat.reduceLeDiff, Nat.reduceLT, h0, h1, hi, hp]
    · simp only [go_sem, reduceIte, Nat.reduceEqDiff, Nat.reduceAdd, Nat.reduceLeDiff, Nat.reduceLT, h0, h1, hi, Int.ofNat_lt, hj, decide_false]
/-! ### a prefix -/
theorem pre_take {p s : List UInt8} : p.isPrefixOf s = decide (p.length ≤ s.length ∧ s.take p.length = p) := by
  rw [Bool.eq_iff_iff, List.isPrefixOf_iff_prefix, decide_eq_true_eq]
  constructor
  · rintro ⟨t, rfl⟩
    simp
  · rintro ⟨_, h⟩
    exact ⟨s.drop p.length, by have e := List.take_append_drop p.length s; rw [h] at e; exact e⟩
theorem pre2_ok (s p : List UInt8) : calL EE 65 [.str s, .str p] [] = some (.ret (.bool (p.isPrefixOf s)), []) := by
  refine fn_ok f65 (by simp) ?_
  unfold c65
  simp only [go_sem, reduceIte, Nat.reduceEqDiff, Nat.reduceAdd, Nat.reduceLeDiff, Nat.reduceLT, Int.toNat_natCast, List.drop_zero]
  refine ⟨fun h => by rw [decide_eq_true_eq] at h; omega, ?_⟩
  rw [pre_take]
  by_cases h : p.length ≤ s.length
  · rw [decide_eq_true (show (p.length : Int) ≤ s.length by omega)]
    simp [h]
  · rw [decide_eq_false (show ¬ (p.length : Int) ≤ s.length by omega)]
    simp [h]
theorem pre_ok (s p : List UInt8) : calL EE 45 [.str s, .str p] [] = some (.ret (.bool (p.isPrefixOf s)), []) := by
  refine fn_ok f45 (by simp) ?_
  unfold c45
  simp only [go_sem, reduceIte, Nat.reduceEqDiff, Nat.reduceAdd, Nat.reduceLeDiff, Nat.reduceLT]
  refine WC_p rfl rfl (pre2_ok s p) ?_
  simp only [go_sem, reduceIte, Nat.reduceEqDiff, Nat.reduceAdd, Nat.reduceLeDiff, Nat.reduceLT]
end Go.Vm
