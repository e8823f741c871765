/- Chapter 23: the reference's integers, strings and symbols. -/
import Derived.Test.YtpnlogofcecjeaaGreatDoorLxYa
set_option linter.unusedVariables false
set_option linter.unusedSimpArgs false
set_option maxRecDepth 100000
namespace Go.Vm
open Go

abbrev noTok : List SV := [.int .i64 0, .int .i64 0, .str []]
/-! ### integers -/
theorem digT_step {t : List UInt8} (h1 : 1 < t.length) (h2 : t.getD 0 0 = 48) : digT (t.drop 1) = digT t ∧ t.drop 1 ≠ [] := by
  cases t with
  | nil => simp at h1
  | cons b r =>
    have hb : b = 48 := h2
    subst hb
    have hr : r ≠ [] := fun e => by rw [e] at h1; simp at h1
    exact ⟨(digT_z hr).symm, hr⟩
theorem digT_stop {t : List UInt8} (h0 : t ≠ []) (h : ¬ (1 < t.length ∧ t.getD 0 0 = 48)) : digT t = t ∧ (t.length ≤ 1 ∨ t.getD 0 0 ≠ 48) := by
  cases t with
  | nil => exact absurd rfl h0
  | cons b r =>
    by_cases hb : b = 48
    · have hr : r = [] := by
        cases r with
        | nil => rfl
        | cons c r => exact absurd ⟨by simp, hb⟩ h
      subst hr
      exact ⟨digT_one, .inl (by simp)⟩
    · exact ⟨digT_self hb, .inr hb⟩
theorem lt_flip : ∀ (a b : List UInt8), (!bytesLt a b && !decide (a = b)) = bytesLt b a
  | [], [] => rfl
  | [], y :: b => rfl
  | x :: a, [] => by simp [bytesLt, Op.bytesLess]
  | x :: a, y :: b => by
    have ih := lt_flip a b
    rw [lt_cons, lt_cons, ← ih]
    have e : ∀ p q : UInt8, p < q ↔ p.toNat < q.toNat := fun _ _ => Iff.rfl
    rcases Nat.lt_trichotomy x.toNat y.toNat with h | h | h
    · have h1 : x < y := h
      have h2 : ¬ y < x := fun h3 => absurd ((e y x).1 h3) (by omega)
      have h3 : y ≠ x := fun h4 => by rw [h4] at h; exact Nat.lt_irrefl _ h
      have h4 : (y == x) = false := by simpa using h3
      rw [decide_eq_true h1, decide_eq_false h2, h4]
      simp
    · have h1 : x = y := UInt8.toNat_inj.1 h
      subst h1
      have h2 : ¬ x < x := fun h3 => absurd ((e x x).1 h3) (by omega)
      rw [decide_eq_false h2]
      simp
    · have h1 : y < x := h
      have h2 : ¬ x < y := fun h3 => absurd ((e x y).1 h3) (by omega)
      have h3 : x ≠ y := fun h4 => by rw [h4] at h; exact Nat.lt_irrefl _ h
      have h4 : (x == y) = false := by simpa using h3
      have h5 : (y == x) = false := by simpa using fun h : y = x => h3 h.symm
      rw [decide_eq_true h1, decide_eq_false h2, h4]
      simp [h3]
theorem bs_gtr {a b : List UInt8} : binM .gtr .num (.s (.str a)) (.s (.str b)) = some (.s (.bool (bytesLt b a))) := by
  rw [← lt_flip a b]
  simp [binM, binStr]
def intR (s : List UInt8) (a : Nat) : PV :=
  if 9223372036854775807 < dv (digT ((s.drop a).take (spn isDig (s.drop a)))) then .tuple [.st noTok, .i64 a, .bool false] else
  if a + spn isDig (s.drop a) < s.length ∧ isWd (s.getD (a + spn isDig (s.drop a)) 0) = true then .tuple [.st noTok, .i64 (a + spn isDig (s.drop a) : Nat), .bool false] else
  .tuple [.st [.int .i64 2, .int .i64 a, .str (digT ((s.drop a).take (spn isDig (s.drop a))))], .i64 (a + spn isDig (s.drop a) : Nat), .bool true]
theorem refInt_ok (s : List UInt8) (a : Nat) (ha : a < s.length) (hd0 : isDig (s.getD a 0) = true) (hs : s.length ≤ 1000000) : calL EE 35 [.str s, .i64 a] [] = some (.ret (intR s a), []) := by
  refine fn_ok f35 (by simp) ?_
  unfold c35
  simp only [go_sem, reduceIte, Nat.reduceEqDiff, Nat.reduceAdd, Nat.reduceLeDiff, Nat.reduceLT]
  have hle := @spn_le isDig (s.drop a)
  rw [List.length_drop] at hle
  have hpos : 1 ≤ spn isDig (s.drop a) := by rw [drop_get ha]; exact spn_pos hd0
  have hall := @all_take isDig (s.drop a)
  have hcut : (s.take (a + spn isDig (s.drop a))).drop a = (s.drop a).take (spn isDig (s.drop a)) := by
    rw [List.drop_take]; congr 1; omega
  have hwl : ((s.drop a).take (spn isDig (s.drop a))).length = spn isDig (s.drop a) := by rw [List.length_take, List.length_drop]; omega
  have hin : ∀ i, i < spn isDig (s.drop a) → isDig (s.getD (a + i) 0) = true := fun i h => by
    have := spn_in h
    rwa [getD_drop] at this
  have hout : a + spn isDig (s.drop a) < s.length → isDig (s.getD (a + spn isDig (s.drop a)) 0) = false := fun h => by
    have h1 : spn isDig (s.drop a) < (s.drop a).length := by rw [List.length_drop]; omega
    have := spn_out h1
    rwa [getD_drop] at this
  unfold intR
  generalize hN : spn isDig (s.drop a) = N at hle hpos hall hcut hwl hin hout ⊢
  refine WP_mid rfl (Q' := fun e T1 H1 n1 => e = .exit 0 ∧ T1 7 = .i64 (a + N : Nat) ∧ H1 0 = .box 30 (noTok.map .s)) ?_ ?_
  · refine WP_loop rfl (fun k T H n => ∃ i : Nat, i + k = N ∧ T 7 = .i64 (a + i : Nat) ∧ H 0 = .box 30 (noTok.map .s)) (k0 := N) ⟨0, by omega, rfl, rfl⟩ ?_
    rintro k T' H' n' hf ⟨i, hik, h7, hH⟩
    have h0 : T' 0 = .str s := hf 0 rfl
    clear hf
    have hw := wrap_suc (j := a + i) (by omega)
    by_cases hlt : a + i < s.length
    · have hlt2 : decide (((a + i : Nat) : Int) < s.length) = true := decide_eq_true (by omega)
      simp only [go_sem, reduceIte, Nat.reduceEqDiff, Nat.reduceAdd, Nat.reduceLeDiff, Nat.reduceLT, h0, h7, hlt2, Int.toNat_natCast]
      refine ⟨by omega, ?_⟩
      refine WC_p rfl rfl (refDigit_ok _) ?_
      cases hb : isDig (s.getD (a + i) 0) with
      | true =>
        simp only [go_sem, reduceIte, Nat.reduceEqDiff, Nat.reduceAdd, Nat.reduceLeDiff, Nat.reduceLT, h7, hlt2, hb, hw]
        have hiN : i < N := by
          apply Classical.byContradiction
          intro hn
          have e : i = N := by omega
          rw [e] at hb
          rw [hout (by omega)] at hb
          cases hb
        exact ⟨k - 1, by omega, i + 1, by omega, rfl, hH⟩
      | false =>
        simp only [go_sem, reduceIte, Nat.reduceEqDiff, Nat.reduceAdd, Nat.reduceLeDiff, Nat.reduceLT, h7, hlt2, hb, hw]
        have hiN : i = N := by
          apply Classical.byContradiction
          intro hn
          rw [hin i (by omega)] at hb
          cases hb
        exact ⟨by rw [hiN], hH⟩
    · have hlt2 : decide (((a + i : Nat) : Int) < s.length) = false := decide_eq_false (by omega)
      simp only [go_sem, reduceIte, Nat.reduceEqDiff, Nat.reduceAdd, Nat.reduceLeDiff, Nat.reduceLT, h0, h7, hlt2]
      exact ⟨by rw [show i = N by omega], hH⟩
  · rintro e T1 H1 n1 hf ⟨rfl, h7, hH⟩
    have h0 : T1 0 = .str s := hf 0 rfl
    have h1 : T1 1 = .i64 a := hf 1 rfl
    have h4 : T1 4 = .ptr 0 0 := hf 4 rfl
    clear hf
    generalize hW : (s.drop a).take N = w at hall hcut hwl ⊢
    have hwne : w ≠ [] := fun e => by rw [e] at hwl; simp at hwl; omega
    simp only [go_sem, reduceIte, Nat.reduceEqDiff, Nat.reduceAdd, Nat.reduceLeDiff, Nat.reduceLT, h0, h1, h7, Int.toNat_natCast, hcut]
    refine ⟨⟨by omega, by omega⟩, ?_⟩
    refine WP_mid rfl (Q' := fun e T2 H2 n2 => e = .exit 2 ∧ T2 8 = .str (digT w) ∧ (digT w).all isDig = true ∧ ((digT w).length ≤ 1 ∨ (digT w).getD 0 0 ≠ 48) ∧ H2 0 = .box 30 (noTok.map .s)) ?_ ?_
    · refine WP_loop rfl (fun k T H n => ∃ t : List UInt8, T 8 = .str t ∧ t.length = k ∧ t ≠ [] ∧ digT t = digT w ∧ H 0 = .box 30 (noTok.map .s)) (k0 := w.length) ⟨w, rfl, rfl, hwne, rfl, hH⟩ ?_
      rintro k T2 H2 n2 hf2 ⟨t, g8, htk, htn, htd, hH2⟩
      clear hf2
      have hlp : 0 < t.length := List.length_pos_iff.2 htn
      have e48 : decide (((t.getD 0 0).toNat : Int) = 48) = decide (t.getD 0 0 = 48) := u8d (k := 48) (by omega)
      have e0 : Int.toNat 0 = 0 := rfl
      have e1 : Int.toNat 1 = 1 := rfl
      by_cases hc : 1 < t.length ∧ t.getD 0 0 = 48
      · obtain ⟨c1, c2⟩ := hc
        obtain ⟨d1, d2⟩ := digT_step c1 c2
        rw [decide_eq_true c2] at e48
        have c1' : decide ((1 : Int) < t.length) = true := decide_eq_true (by omega)
        have hlp' : (0 : Int) < t.length := by omega
        simp only [go_sem, reduceIte, Nat.reduceEqDiff, Nat.reduceAdd, Nat.reduceLeDiff, Nat.reduceLT, g8, c1', e0, e1, e48, hlp', List.take_length]
        exact ⟨fun _ => Int.le_refl _, ⟨by omega, by omega⟩, t.length - 1, by omega, t.drop 1, rfl, List.length_drop, d2, d1.trans htd, hH2⟩
      · obtain ⟨d1, d2⟩ := digT_stop htn hc
        have hall2 := digT_all hall
        rw [← htd, d1] at hall2 ⊢
        have hlp' : (0 : Int) < t.length := by omega
        by_cases c1 : 1 < t.length
        · have c1' : decide ((1 : Int) < t.length) = true := decide_eq_true (by omega)
          rw [decide_eq_false (fun h => hc ⟨c1, h⟩)] at e48
          simp only [go_sem, reduceIte, Nat.reduceEqDiff, Nat.reduceAdd, Nat.reduceLeDiff, Nat.reduceLT, g8, c1', e0, e48, hlp']
          exact ⟨fun _ => Int.le_refl _, hall2, d2, hH2⟩
        · have c1' : decide ((1 : Int) < t.length) = false := decide_eq_false (by omega)
          simp only [go_sem, reduceIte, Nat.reduceEqDiff, Nat.reduceAdd, Nat.reduceLeDiff, Nat.reduceLT, g8, c1', e0, hlp']
          exact ⟨fun h => h.elim, hall2, d2, hH2⟩
    · rintro e T2 H2 n2 hf ⟨rfl, g8, hda, hdz, hH2⟩
      have g0 : T2 0 = .str s := (hf 0 rfl).trans h0
      have g1 : T2 1 = .i64 a := (hf 1 rfl).trans h1
      have g4 : T2 4 = .ptr 0 0 := (hf 4 rfl).trans h4
      have g7 : T2 7 = .i64 (a + N : Nat) := (hf 7 rfl).trans h7
      clear hf
      have hbig := big_iff hda hdz
      have hdl : (digT w).length ≤ 1000001 := by have := digT_len (s := w); omega
      generalize digT w = t at *
      have em : ([57, 50, 50, 51, 51, 55, 50, 48, 51, 54, 56, 53, 52, 55, 55, 53, 56, 48, 55] : List UInt8) = maxT := rfl
      have hbool : (decide ((19 : Int) < t.length) || decide ((t.length : Int) = 19) && bytesLt maxT t) = decide (9223372036854775807 < dv t) := by
        rw [Bool.eq_iff_iff, decide_eq_true_eq, ← hbig, Bool.or_eq_true, Bool.and_eq_true, decide_eq_true_eq, decide_eq_true_eq]
        constructor
        · rintro (h | ⟨h, h2⟩)
          · exact .inl (by omega)
          · exact .inr ⟨by omega, h2⟩
        · rintro (h | ⟨h, h2⟩)
          · exact .inl (by omega)
          · exact .inr ⟨by omega, h2⟩
      by_cases hov : 9223372036854775807 < dv t
      · rw [decide_eq_true hov] at hbool
        rw [if_pos hov]
        simp only [go_sem, reduceIte, Nat.reduceEqDiff, Nat.reduceAdd, Nat.reduceLeDiff, Nat.reduceLT, g0, g1, g4, g7, g8, bs_gtr, em, hbool, hH2]
      · rw [decide_eq_false hov] at hbool
        rw [if_neg hov]
        by_cases hlt : a + N < s.length
        · have hlt' : ((a + N : Nat) : Int) < s.length := by omega
          have hlt2 : decide (((a + N : Nat) : Int) < s.length) = true := decide_eq_true hlt'
          have e95 : decide (((s.getD (a + N) 0).toNat : Int) = 95) = decide (s.getD (a + N) 0 = 95) := u8d (k := 95) (by omega)
          have hwd : isWd (s.getD (a + N) 0) = (isLet (s.getD (a + N) 0) || decide (s.getD (a + N) 0 = 95)) := by
            unfold isWd; rw [hout hlt, Bool.or_false]
          simp only [go_sem, reduceIte, Nat.reduceEqDiff, Nat.reduceAdd, Nat.reduceLeDiff, Nat.reduceLT, g0, g1, g4, g7, g8, bs_gtr, em, hbool, hH2, hlt2, Int.toNat_natCast]
          refine ⟨hlt', WC_p rfl rfl (refLetter_ok _) ?_⟩
          cases hb : isLet (s.getD (a + N) 0) with
          | true =>
            rw [hb, Bool.true_or] at hwd
            simp only [go_sem, reduceIte, Nat.reduceEqDiff, Nat.reduceAdd, Nat.reduceLeDiff, Nat.reduceLT, g0, g1, g4, g7, g8, hlt, hlt2, hwd, hH2]
          | false =>
            rw [hb, Bool.false_or] at hwd
            rw [← hwd] at e95
            simp only [go_sem, reduceIte, Nat.reduceEqDiff, Nat.reduceAdd, Nat.reduceLeDiff, Nat.reduceLT, g0, g1, g4, g7, g8, hlt, hlt2, hH2, Int.toNat_natCast, e95]
            cases hwv : isWd (s.getD (a + N) 0) with
            | true =>
              simp only [go_sem, reduceIte, Nat.reduceEqDiff, Nat.reduceAdd, Nat.reduceLeDiff, Nat.reduceLT, g0, g1, g4, g7, g8, hlt, hlt2, hH2, Int.toNat_natCast, e95]
              exact ⟨.inr hlt', fun _ => .inr hlt'⟩
            | false =>
              simp only [go_sem, reduceIte, Nat.reduceEqDiff, Nat.reduceAdd, Nat.reduceLeDiff, Nat.reduceLT, g0, g1, g4, g7, g8, hlt, hlt2, hH2, Int.toNat_natCast, e95]
              exact ⟨.inr hlt', fun _ => .inr hlt'⟩
        · have hlt2 : decide (((a + N : Nat) : Int) < s.length) = false := decide_eq_false (by omega)
          simp only [go_sem, reduceIte, Nat.reduceEqDiff, Nat.reduceAdd, Nat.reduceLeDiff, Nat.reduceLT, g0, g1, g4, g7, g8, bs_gtr, em, hbool, hH2, hlt, hlt2, Int.toNat_natCast, false_and, if_false]
end Go.Vm
