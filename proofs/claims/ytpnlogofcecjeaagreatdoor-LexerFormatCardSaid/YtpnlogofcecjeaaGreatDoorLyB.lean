/- Chapter 23: the law LexerOffsets. -/
import Derived.Test.YtpnlogofcecjeaaGreatDoorLxY
set_option linter.unusedVariables false
set_option linter.unusedSimpArgs false
set_option maxRecDepth 100000
namespace Go.Vm
open Go

theorem up_up (b : UInt8) : mapB 97 65 (mapB 97 65 b) = mapB 97 65 b ∧ mapB 97 65 (mapB 65 97 b) = mapB 97 65 b ∧ mapB 65 97 (mapB 65 97 b) = mapB 65 97 b := by
  refine forall_u8 (P := fun b => mapB 97 65 (mapB 97 65 b) = mapB 97 65 b ∧ mapB 97 65 (mapB 65 97 b) = mapB 97 65 b ∧ mapB 65 97 (mapB 65 97 b) = mapB 65 97 b) ?_ b
  have h : ((List.range 256).all fun n => decide (mapB 97 65 (mapB 97 65 (UInt8.ofNat n)) = mapB 97 65 (UInt8.ofNat n)) && decide (mapB 97 65 (mapB 65 97 (UInt8.ofNat n)) = mapB 97 65 (UInt8.ofNat n)) && decide (mapB 65 97 (mapB 65 97 (UInt8.ofNat n)) = mapB 65 97 (UInt8.ofNat n))) = true := by kernel_rfl
  intro n hn
  have := List.all_eq_true.1 h n (List.mem_range.2 hn)
  simp only [Bool.and_eq_true, decide_eq_true_eq] at this
  exact ⟨this.1.1, this.1.2, this.2⟩
theorem map_up_up {w : List UInt8} : (w.map (mapB 97 65)).map (mapB 97 65) = w.map (mapB 97 65) := by
  rw [List.map_map]; exact List.map_congr_left fun b _ => (up_up b).1
theorem map_up_low {w : List UInt8} : (w.map (mapB 65 97)).map (mapB 97 65) = w.map (mapB 97 65) := by
  rw [List.map_map]; exact List.map_congr_left fun b _ => (up_up b).2.1
/-- What is known of a token that is found. -/
theorem tok_fact {r : List UInt8} (h0 : r ≠ []) (hn : (recV r).n ≠ 0) :
    (((recV r).k = 0 ∨ (recV r).k = 1) ∧ isLet (r.getD 0 0) = true ∧ (recV r).t.length = (recV r).n ∧ (r.take (recV r).n).map (mapB 97 65) = (recV r).t.map (mapB 97 65) ∧ isKw (recV r).t = decide ((recV r).k = 1)) ∨
    ((recV r).k = 2 ∧ isDig (r.getD 0 0) = true) ∨ ((recV r).k = 3 ∧ r.take (recV r).n = 39 :: (q2 (recV r).t ++ [39]) ∧ (recV r).t.length ≤ 255) ∨ ((recV r).k = 4 ∧ r.take (recV r).n = (recV r).t) := by
  match r, h0 with
  | b :: r, h0 =>
  by_cases hb : isLet b = true
  · refine .inl ?_
    have hw := recV_word hb hn
    refine ⟨hw.1, hb, hw.2, ?_⟩
    rw [recV_let hb] at hn hw ⊢
    have h0 : isLet ((b :: r).getD 0 0) = true := hb
    cases hk : isKw ((b :: r).take (spn isWd (b :: r))) with
    | true =>
      rw [wordV_b h0 hk]
      refine ⟨map_up_up.symm, ?_⟩
      show isKw (((b :: r).take (spn isWd (b :: r))).map (mapB 97 65)) = true
      unfold isKw at hk ⊢
      rw [map_up_up]; exact hk
    | false =>
      by_cases h31 : 31 < spn isWd (b :: r)
      · rw [wordV_c h0 hk h31] at hn; exact absurd rfl hn
      · rw [wordV_d h0 hk h31]
        refine ⟨map_up_low.symm, ?_⟩
        show isKw (((b :: r).take (spn isWd (b :: r))).map (mapB 65 97)) = false
        unfold isKw at hk ⊢
        rw [map_up_low]; exact hk
  · have hb : isLet b = false := by simpa using hb
    by_cases hd : isDig b = true
    · refine .inr (.inl ⟨?_, hd⟩)
      rw [recV_dig hb hd] at hn ⊢
      unfold intV noRc at hn ⊢
      repeat' split at hn
      all_goals first | exact absurd rfl hn | skip
      rename_i h1 h2 h3
      rw [if_neg h1, if_neg h2, if_neg h3]
    · have hd : isDig b = false := by simpa using hd
      by_cases hq : b = 39
      · subst hq
        refine .inr (.inr (.inl ?_))
        rw [recV_q] at hn ⊢
        have h0' : (39 :: r : List UInt8).getD 0 0 = 39 := rfl
        cases hqv : qv ((39 :: r : List UInt8).drop 1) with
        | none => rw [quotV_b h0' hqv] at hn; exact absurd rfl hn
        | some p =>
          have e := quotV_c h0' (show qv ((39 :: r : List UInt8).drop 1) = some (p.1, p.2) from hqv)
          have g := quot_unq h0 h0' (show qv ((39 :: r : List UInt8).drop 1) = some (p.1, p.2) from hqv)
          by_cases h255 : 255 < p.1.length
          · rw [if_pos h255] at e; rw [e] at hn; exact absurd rfl hn
          · rw [if_neg h255] at e
            rw [e]
            exact ⟨rfl, g.2.2, by show p.1.length ≤ 255; omega⟩
      · refine .inr (.inr (.inr ?_))
        rw [recV_sym hb hd hq] at hn ⊢
        unfold symR at hn ⊢
        cases hs : symF (b :: r) with
        | none => rw [hs] at hn; exact absurd rfl hn
        | some x =>
          refine ⟨rfl, ?_⟩
          have h1 := List.find?_some hs
          rw [pre_take, decide_eq_true_eq] at h1
          exact h1.2
/-- Tokens at their places, from a place on. -/
def Chn (s : List UInt8) : Nat → List Tok → Prop
  | _, [] => True
  | e, t :: ts => ∃ p : Nat, t = ⟨(recV (s.drop p)).k, p, (recV (s.drop p)).t⟩ ∧ e ≤ p ∧ p < s.length ∧ (recV (s.drop p)).n ≠ 0 ∧ Chn s (p + (recV (s.drop p)).n) ts
theorem Chn.mono {s : List UInt8} {e e' : Nat} {ts : List Tok} (h : Chn s e ts) (he : e' ≤ e) : Chn s e' ts := by
  cases ts with
  | nil => trivial
  | cons t ts =>
    obtain ⟨p, h1, h2, h3, h4, h5⟩ := h
    exact ⟨p, h1, by omega, h3, h4, h5⟩
theorem steps_chn {s l : List UInt8} {a : Nat} {ts : List Tok} {l2 : List UInt8} {a2 : Nat} (h : Steps l a ts l2 a2) : l = s.drop a → Chn s a ts := by
  induction h with
  | nil l a => intro _; trivial
  | cons l a ts l2 a2 h0 hn h ih =>
    rintro rfl
    have hlt : a < s.length := by
      apply Classical.byContradiction
      intro hn
      exact h0 (List.drop_of_length_le (by omega))
    refine ⟨a, rfl, Nat.le_refl _, hlt, hn, ?_⟩
    refine (ih ?_).mono (by omega)
    rw [← skN_drop, List.drop_drop, List.drop_drop, Nat.add_assoc]
set_option maxHeartbeats 4000000 in
theorem t4 (s : List UInt8) (hs : s.length ≤ 9223372036854775807) : ∃ H' n', runL EE 4 [.str s] (Ob.of []) 0 = some (.ret (.bool true), H', n') := by
  refine run_true ?_
  refine fn_run (R := fun v _ _ => v = .bool true) f4 (by simp) ?_
  unfold c4
  simp only [go_sem, reduceIte, Nat.reduceEqDiff, Nat.reduceAdd, Nat.reduceLeDiff, Nat.reduceLT]
  refine WC_p rfl rfl awake23 ?_
  simp only [go_sem, reduceIte, Nat.reduceEqDiff, Nat.reduceAdd, Nat.reduceLeDiff, Nat.reduceLT, Bool.not_true, decide_eq_true_eq]
  by_cases h600 : 600 < s.length
  · rw [if_pos (by omega)]
    refine WC_p rfl rfl awake23 ?_
    simp only [go_sem, reduceIte, Nat.reduceEqDiff, Nat.reduceAdd, Nat.reduceLeDiff, Nat.reduceLT]
  · rw [if_neg (by omega)]
    obtain ⟨v, hv, hr⟩ := scan_ok s (by omega)
    refine WC_p rfl rfl hv ?_
    rcases hr with ⟨h16, _⟩ | ⟨_, ⟨e, he, rfl⟩ | ⟨l, q, hl, hq, rfl⟩⟩
    · omega
    · have c1 : decide ((3 : Int) = 0) = false := rfl
      have c2 := (err_law he).1
      have c3 : decide ((0 : Int) ≤ e) = true := decide_eq_true (by omega)
      have c4 : decide ((e : Int) < s.length) = true := decide_eq_true (by omega)
      simp only [go_sem, reduceIte, Nat.reduceEqDiff, Nat.reduceAdd, Nat.reduceLeDiff, Nat.reduceLT, ext2.1, ext2.2.1, ext2.2.2, c1, c3, c4, Bool.not_false, decide_true, Bool.and_self]
    · subst hq
      have hlen : q.l.length ≤ 1000000 := by have := scan_len _ hl; omega
      obtain ⟨a2, hst⟩ := scan_steps s.length sk_len hl
      have hch : Chn s 0 q.l := (steps_chn hst (skN_drop s).symm).mono (by omega)
      simp only [go_sem, reduceIte, Nat.reduceEqDiff, Nat.reduceAdd, Nat.reduceLeDiff, Nat.reduceLT, ext2.1, ext2.2.1, ext2.2.2, decide_true, Bool.not_true]
      refine WP_scan rfl 46 q.l.length (fun _ => True) (fun j T H n => ∃ e : Nat, T 6 = .i64 e ∧ Chn s e (q.l.drop j)) rfl ⟨0, rfl, by rw [List.drop_zero]; exact hch⟩ ?_ ?_
      · rintro j T' H' n' hlt hf hi ⟨e, h6, hc⟩ _
        have g0 : T' 0 = .str s := hf 0 rfl
        have g44 : T' 44 = .s (q.sv Tok.row) := hf 44 rfl
        have g45 : T' 45 = .i64 q.l.length := hf 45 rfl
        clear hf
        have hdj : q.l.drop j = q.l.getD j default :: q.l.drop (j + 1) := by
          rw [List.drop_eq_getElem_cons hlt, List.getD_eq_getElem?_getD, List.getElem?_eq_getElem hlt]; rfl
        rw [hdj] at hc
        obtain ⟨p, ht, hep, hp, hn, hc⟩ := hc
        have hd0 : s.drop p ≠ [] := fun h => by
          have := congrArg List.length h
          rw [List.length_drop, List.length_nil] at this
          omega
        have hfact := tok_fact hd0 hn
        have hle := recV_n hd0
        have hdl : (s.drop p).length = s.length - p := List.length_drop
        have hg0 : (s.drop p).getD 0 0 = s.getD p 0 := by rw [getD_drop]; rfl
        rw [hg0] at hfact
        have hdt : ∀ k, (s.take (p + k)).drop p = (s.drop p).take k := fun k => by rw [List.drop_take]; congr 1; omega
        generalize recV (s.drop p) = x at ht hn hc hfact hle
        obtain ⟨k, t, m, bad⟩ := x
        simp only at ht hn hc hfact hle
        have b1 : decide ((p : Int) < e) = false := decide_eq_false (by omega)
        have b2 : decide ((s.length : Int) ≤ p) = false := decide_eq_false (by omega)
        have b3 : (p : Int) < s.length := by omega
        have b4 : (0 : Int) ≤ p := by omega
        have hw1 := wrap_suc (j := p) (by omega)
        have hwj := wrap_suc (j := j) (by omega)
        have hji : (j : Int) < q.l.length := by omega
        have hj0 : (0 : Int) ≤ j := by omega
        have b7 : (p : Int) ≤ s.length := by omega
        rcases hfact with ⟨hk, f1, f2, f3, f4⟩ | ⟨rfl, f1⟩ | ⟨rfl, f1, f2⟩ | ⟨rfl, f1⟩
        · have hwt := wrap_add (i := p) (j := t.length) (by omega)
          have b5 : decide (((s.drop p).length : Int) < t.length) = false := decide_eq_false (by omega)
          have b5' : decide (((s.length - p : Nat) : Int) < t.length) = false := decide_eq_false (by omega)
          have b6 : t.length ≤ (s.drop p).length := by omega
          have f3' : ((s.drop p).take t.length).map (mapB 97 65) = t.map (mapB 97 65) := by rw [f2]; exact f3
          have fin : ∃ e : Nat, PV.i64 ((p + t.length : Nat) : Int) = .i64 e ∧ Chn s e (q.l.drop (j + 1)) := ⟨p + t.length, rfl, hc.mono (by omega)⟩
          rcases hk with rfl | rfl
          · have d1 : decide ((0 : Int) = 1) = false := rfl
            rw [d1] at f4
            simp only [go_sem, reduceIte, Nat.reduceEqDiff, Nat.reduceAdd, Nat.reduceLeDiff, Nat.reduceLT, g0, g44, g45, h6, hi, hlt, hji, hj0, and_self, decide_true, ia_tok, load_eptr, Tok.row, Int.toNat_natCast, ht, b1, b2, b3, b4, d1, hw1, hwt, List.take_length]
            refine ⟨b7, ?_⟩
            refine WC_p rfl rfl (refLetter_ok _) ?_
            rw [f1]
            simp only [go_sem, reduceIte, Nat.reduceEqDiff, Nat.reduceAdd, Nat.reduceLeDiff, Nat.reduceLT, d1, List.take_length, b5, Int.toNat_natCast, List.drop_zero]
            refine ⟨by omega, ?_⟩
            refine WC_p rfl rfl (refUpper_ok _ (by rw [List.length_take]; omega)) ?_
            simp only [go_sem, reduceIte, Nat.reduceEqDiff, Nat.reduceAdd, Nat.reduceLeDiff, Nat.reduceLT, d1]
            refine WC_p rfl rfl (refUpper_ok t (by omega)) ?_
            rw [f3']
            simp only [go_sem, reduceIte, Nat.reduceEqDiff, Nat.reduceAdd, Nat.reduceLeDiff, Nat.reduceLT, d1, decide_true, Bool.not_true]
            refine WC_p rfl rfl (isKw_ok t (by omega)) ?_
            rw [f4]
            simp only [go_sem, reduceIte, Nat.reduceEqDiff, Nat.reduceAdd, Nat.reduceLeDiff, Nat.reduceLT, d1, hi, hwj, decide_true, Bool.not_true, beq_self_eq_true]
            exact fin
          · have d1 : decide ((1 : Int) = 1) = true := rfl
            rw [d1] at f4
            simp only [go_sem, reduceIte, Nat.reduceEqDiff, Nat.reduceAdd, Nat.reduceLeDiff, Nat.reduceLT, g0, g44, g45, h6, hi, hlt, hji, hj0, and_self, decide_true, ia_tok, load_eptr, Tok.row, Int.toNat_natCast, ht, b1, b2, b3, b4, hw1, List.take_length, d1, hwt]
            refine ⟨b7, ?_⟩
            refine WC_p rfl rfl (refLetter_ok _) ?_
            rw [f1]
            simp only [go_sem, reduceIte, Nat.reduceEqDiff, Nat.reduceAdd, Nat.reduceLeDiff, Nat.reduceLT, d1, List.take_length, b5, Int.toNat_natCast, List.drop_zero]
            refine ⟨by omega, ?_⟩
            refine WC_p rfl rfl (refUpper_ok _ (by rw [List.length_take]; omega)) ?_
            simp only [go_sem, reduceIte, Nat.reduceEqDiff, Nat.reduceAdd, Nat.reduceLeDiff, Nat.reduceLT, d1]
            refine WC_p rfl rfl (refUpper_ok t (by omega)) ?_
            rw [f3']
            simp only [go_sem, reduceIte, Nat.reduceEqDiff, Nat.reduceAdd, Nat.reduceLeDiff, Nat.reduceLT, d1, decide_true, Bool.not_true]
            refine WC_p rfl rfl (isKw_ok t (by omega)) ?_
            rw [f4]
            simp only [go_sem, reduceIte, Nat.reduceEqDiff, Nat.reduceAdd, Nat.reduceLeDiff, Nat.reduceLT, d1, hi, hwj, decide_true, Bool.not_true, beq_self_eq_true]
            exact fin
        · have d1 : decide ((2 : Int) = 1) = false := rfl
          have d0 : decide ((2 : Int) = 0) = false := rfl
          simp only [go_sem, reduceIte, Nat.reduceEqDiff, Nat.reduceAdd, Nat.reduceLeDiff, Nat.reduceLT, g0, g44, g45, h6, hi, hlt, hji, hj0, and_self, decide_true, ia_tok, load_eptr, Tok.row, Int.toNat_natCast, ht, b1, b2, b3, b4, hw1, List.take_length, d1, d0]
          refine ⟨b7, ?_⟩
          refine WC_p rfl rfl (refDigit_ok _) ?_
          rw [f1]
          simp only [go_sem, reduceIte, Nat.reduceEqDiff, Nat.reduceAdd, Nat.reduceLeDiff, Nat.reduceLT, hi, hwj, Bool.not_true]
          exact ⟨p + 1, rfl, hc.mono (by omega)⟩
        · have d1 : decide ((3 : Int) = 1) = false := rfl
          have d0 : decide ((3 : Int) = 0) = false := rfl
          have d2 : decide ((3 : Int) = 2) = false := rfl
          have hql : (39 :: (q2 t ++ [39])).length = m := by rw [← f1, List.length_take]; omega
          have hwq := wrap_add (i := p) (j := m) (by omega)
          have b8 : decide ((255 : Int) < t.length) = false := decide_eq_false (by omega)
          have b9 : decide ((s.length : Int) < ((p + m : Nat) : Int)) = false := decide_eq_false (by omega)
          simp only [go_sem, reduceIte, Nat.reduceEqDiff, Nat.reduceAdd, Nat.reduceLeDiff, Nat.reduceLT, g0, g44, g45, h6, hi, hlt, hji, hj0, and_self, decide_true, ia_tok, load_eptr, Tok.row, Int.toNat_natCast, ht, b1, b2, b3, b4, hw1, List.take_length, d1, d0, d2]
          refine ⟨b7, ?_⟩
          refine WC_p rfl rfl (quote_ok t (by omega)) ?_
          simp only [go_sem, reduceIte, Nat.reduceEqDiff, Nat.reduceAdd, Nat.reduceLeDiff, Nat.reduceLT, g0, hql, hwq, b8, b9, Int.toNat_natCast, hdt, f1]
          refine ⟨⟨by omega, by omega⟩, ?_⟩
          refine WC_p rfl rfl (quote_ok t (by omega)) ?_
          simp only [go_sem, reduceIte, Nat.reduceEqDiff, Nat.reduceAdd, Nat.reduceLeDiff, Nat.reduceLT, hi, hwj, decide_true, Bool.not_true]
          exact ⟨p + m, rfl, hc⟩
        · have d1 : decide ((4 : Int) = 1) = false := rfl
          have d0 : decide ((4 : Int) = 0) = false := rfl
          have d2 : decide ((4 : Int) = 2) = false := rfl
          have d3 : decide ((4 : Int) = 3) = false := rfl
          have hql : t.length = m := by rw [← f1, List.length_take]; omega
          have hwq := wrap_add (i := p) (j := m) (by omega)
          have b9 : decide ((s.length : Int) < ((p + m : Nat) : Int)) = false := decide_eq_false (by omega)
          simp only [go_sem, reduceIte, Nat.reduceEqDiff, Nat.reduceAdd, Nat.reduceLeDiff, Nat.reduceLT, g0, g44, g45, h6, hi, hlt, hji, hj0, and_self, decide_true, ia_tok, load_eptr, Tok.row, Int.toNat_natCast, ht, b1, b2, b3, b4, hw1, List.take_length, d1, d0, d2, d3, hql, hwq, b9, hdt, f1, hi, hwj]
          exact ⟨b7, .inr ⟨by omega, by omega⟩, p + m, rfl, hc⟩
      · rintro T' H' n' hf hi _ _
        have g0 : T' 0 = .str s := hf 0 rfl
        have g4 : T' 4 = .i64 s.length := hf 4 rfl
        have g45 : T' 45 = .i64 q.l.length := hf 45 rfl
        clear hf
        simp only [go_sem, reduceIte, Nat.reduceEqDiff, Nat.reduceAdd, Nat.reduceLeDiff, Nat.reduceLT, g0, g4, g45, hi, Int.lt_irrefl, decide_false, decide_true]
end Go.Vm
