/- Chapter 23: the law LexerCase. -/
import Derived.Test.YtpnlogofcecjeaaGreatDoorLxL
set_option linter.unusedVariables false
set_option linter.unusedSimpArgs false
set_option maxRecDepth 100000
namespace Go.Vm
open Go

def xorI (k : IntKind) (a b : Int) : Int := k.wrap ((BitVec.ofInt k.bits a ^^^ BitVec.ofInt k.bits b).toNat)
theorem bi_xor {k : IntKind} {a b : Int} : binM .xor .num (.s (.int k a)) (.s (.int k b)) = some (.s (.int k (xorI k a b))) := by simp [binM, binInt, xorI]
theorem bi_shrG {k k' : IntKind} {a b : Int} : binM .shr .num (.s (.int k a)) (.s (.int k' b)) = gd (0 ≤ b) (.s (.int k (a.fdiv (2 ^ (min b.toNat k.bits))))) := by
  unfold gd
  by_cases h : 0 ≤ b
  · simp [binM, binInt, h, show ¬ b < 0 by omega]
  · simp [binM, binInt, h, show b < 0 by omega]
def flip (b : UInt8) : UInt8 := UInt8.ofNat (xorI .u8 (b.toNat : Int) 32).toNat
theorem flip_val (b : UInt8) : xorI .u8 (b.toNat : Int) 32 = ((flip b).toNat : Int) := by
  refine forall_u8 (P := fun b => xorI .u8 (b.toNat : Int) 32 = ((flip b).toNat : Int)) ?_ b
  have h : ((List.range 256).all fun n => decide (xorI .u8 ((UInt8.ofNat n).toNat : Int) 32 = ((flip (UInt8.ofNat n)).toNat : Int))) = true := by kernel_rfl
  intro n hn
  exact of_decide_eq_true (List.all_eq_true.1 h n (List.mem_range.2 hn))
theorem flip_let (b : UInt8) (hb : isLet b = true) : isLet (flip b) = true ∧ mapB 97 65 b = mapB 97 65 (flip b) ∧ mapB 65 97 b = mapB 65 97 (flip b) := by
  have key : isLet b = true → isLet (flip b) = true ∧ mapB 97 65 b = mapB 97 65 (flip b) ∧ mapB 65 97 b = mapB 65 97 (flip b) := by
    refine forall_u8 (P := fun b => isLet b = true → isLet (flip b) = true ∧ mapB 97 65 b = mapB 97 65 (flip b) ∧ mapB 65 97 b = mapB 65 97 (flip b)) ?_ b
    have h : ((List.range 256).all fun n => !isLet (UInt8.ofNat n) || (isLet (flip (UInt8.ofNat n)) && decide (mapB 97 65 (UInt8.ofNat n) = mapB 97 65 (flip (UInt8.ofNat n))) && decide (mapB 65 97 (UInt8.ofNat n) = mapB 65 97 (flip (UInt8.ofNat n))))) = true := by kernel_rfl
    intro n hn hl
    have := List.all_eq_true.1 h n (List.mem_range.2 hn)
    rw [hl] at this
    simp only [Bool.not_true, Bool.false_or, Bool.and_eq_true, decide_eq_true_eq] at this
    exact ⟨this.1.1, this.1.2, this.2⟩
  exact key hb
theorem Cb.trans {a b c : UInt8} (h : Cb a b) (h' : Cb b c) : Cb a c := by
  rcases h with rfl | ⟨h1, h2, h3, h4⟩
  · exact h'
  · rcases h' with rfl | ⟨g1, g2, g3, g4⟩
    · exact .inr ⟨h1, h2, h3, h4⟩
    · exact .inr ⟨h1, g2, h3.trans g3, h4.trans g4⟩
theorem refLetter_ok (b : UInt8) : calL EE 12 [u8 b] [] = some (.ret (.bool (isLet b)), []) := by
  refine fn_ok f12 (by simp) ?_
  unfold c12 isLet
  simp only [go_sem, reduceIte, Nat.reduceEqDiff, Nat.reduceAdd, Nat.reduceLeDiff, Nat.reduceLT]
  rw [show decide ((65 : Int) ≤ b.toNat) = decide (65 ≤ b.toNat) from decide_eq_decide.2 (by omega), show decide ((b.toNat : Int) ≤ 90) = decide (b.toNat ≤ 90) from decide_eq_decide.2 (by omega),
    show decide ((97 : Int) ≤ b.toNat) = decide (97 ≤ b.toNat) from decide_eq_decide.2 (by omega), show decide ((b.toNat : Int) ≤ 122) = decide (b.toNat ≤ 122) from decide_eq_decide.2 (by omega)]
theorem same_ok (x y : Slc Tok) (hx : x.l.length ≤ 1000000) (h : x.l = y.l) : calL EE 11 [.s (x.sv Tok.row), .s (y.sv Tok.row)] [] = some (.ret (.bool true), []) := by
  have hl : x.l.length = y.l.length := by rw [h]
  refine fn_ok f11 (by simp) ?_
  unfold c11
  have e1 : decide ((x.l.length : Int) = (y.l.length : Int)) = true := decide_eq_true (by omega)
  simp only [go_sem, reduceIte, Nat.reduceEqDiff, Nat.reduceAdd, Nat.reduceLeDiff, Nat.reduceLT, e1, Bool.not_true]
  refine WP_scan rfl 5 x.l.length (fun _ => True) (fun _ _ _ _ => True) rfl trivial ?_ ?_
  · rintro j T' H' n' hlt hf hi _ _
    have h0 : T' 0 = .s (x.sv Tok.row) := hf 0 rfl
    have h1 : T' 1 = .s (y.sv Tok.row) := hf 1 rfl
    clear hf
    have hlt2 : j < y.l.length := by omega
    have hd : decide True = true := rfl
    simp only [go_sem, reduceIte, Nat.reduceEqDiff, Nat.reduceAdd, Nat.reduceLeDiff, Nat.reduceLT, h0, h1, hi, Int.ofNat_lt, hlt, hlt2, decide_true, ia_tok, load_eptr, Tok.row, wrap_suc (show j < 9223372036854775807 by omega), Int.toNat_natCast, h, hd, Bool.not_true, Bool.and_self]
  · rintro T' H' n' hf hi _ _
    have h0 : T' 0 = .s (x.sv Tok.row) := hf 0 rfl
    clear hf
    simp only [go_sem, reduceIte, Nat.reduceEqDiff, Nat.reduceAdd, Nat.reduceLeDiff, Nat.reduceLT, h0, hi, Int.lt_irrefl, decide_false]
theorem steps_le {l : List UInt8} {a : Nat} {ts : List Tok} {l2 : List UInt8} {a2 : Nat} (h : Steps l a ts l2 a2) : ∀ t ∈ ts, wordT t → t.at_ + t.t.length ≤ (a + l.length : Nat) := by
  induction h with
  | nil l a => intro t ht; cases ht
  | cons l a ts l2 a2 h0 hn h ih =>
    intro t ht hw
    have hle := recV_n h0
    rcases List.mem_cons.1 ht with rfl | ht
    · cases l with
      | nil => exact absurd rfl h0
      | cons b r =>
        by_cases hb : isLet b = true
        · have := (recV_word hb hn).2
          simp only
          omega
        · exact absurd hw (recV_other (by simpa using hb) hn)
    · have := ih t ht hw
      have h2 := @sk_len (l.drop (recV l).n) false
      have h3 : skN (l.drop (recV l).n) = (l.drop (recV l).n).length - (sk false (l.drop (recV l).n)).length := rfl
      rw [List.length_drop] at h2 h3
      omega
/-- Bytes in which letters of words may have another case. -/
def Rw (s : List UInt8) (l : List Tok) (w : List UInt8) : Prop := Cf s w ∧ ∀ j, j < s.length → ¬ inW l j → w.getD j 0 = s.getD j 0
theorem Cf.refl : ∀ s, Cf s s
  | [] => trivial
  | b :: r => ⟨.inl rfl, Cf.refl r⟩
theorem Rw.step {s w : List UInt8} {l : List Tok} {i : Nat} (h : Rw s l w) (hi : i < s.length) (hin : inW l i) (hb : isLet (w.getD i 0) = true) : Rw s l (w.set i (flip (w.getD i 0))) := by
  have hl := h.1.len
  have hg : ∀ j, (w.set i (flip (w.getD i 0))).getD j 0 = if j = i then flip (w.getD i 0) else w.getD j 0 := by
    intro j
    rw [List.getD_eq_getElem?_getD, List.getElem?_set]
    by_cases e : j = i
    · subst e
      rw [if_pos rfl, if_pos (by omega), if_pos rfl]; rfl
    · rw [if_neg (fun h => e h.symm), if_neg e, List.getD_eq_getElem?_getD]
  refine ⟨Cf.of (by rw [List.length_set]; exact hl) (fun j hj => ?_), fun j hj hno => ?_⟩
  · rw [hg]
    split
    · rename_i e
      subst e
      obtain ⟨g1, g2, g3⟩ := flip_let _ hb
      exact (h.1.at_ j).trans (.inr ⟨hb, g1, g2, g3⟩)
    · exact h.1.at_ j
  · rw [hg, if_neg (fun e => hno (by rw [e]; exact hin))]
    exact h.2 j hj hno
end Go.Vm
