/- Chapter 23: the reference's white space and words. -/
import Derived.Test.YtpnlogofcecjeaaGreatDoorLxY
set_option linter.unusedVariables false
set_option linter.unusedSimpArgs false
set_option maxRecDepth 100000
namespace Go.Vm
open Go

theorem sk_blank {b : UInt8} {r : List UInt8} (h : isBl b = true) : sk false (b :: r) = sk false r := by rw [sk_f, if_pos h]
theorem sk_true_stop {l : List UInt8} (h : l = [] ∨ l.getD 0 0 = 10) : sk false l = sk true l := by
  cases l with
  | nil => rfl
  | cons b r =>
    have hb : b = 10 := h.resolve_left (by simp)
    subst hb
    rw [sk_f, if_pos (by decide), sk_t, if_pos rfl]
theorem skN_of {s : List UInt8} {a i : Nat} (ha : a ≤ i) (hi : i ≤ s.length) (h : sk false (s.drop a) = s.drop i) : a + skN (s.drop a) = i := by
  unfold skN
  rw [h, List.length_drop, List.length_drop]
  omega
theorem blank_at (s : List UInt8) (a : Nat) (ha : a ≤ s.length) (hs : s.length ≤ 1000000) : calL EE 33 [.str s, .i64 a] [] = some (.ret (.i64 (a + skN (s.drop a) : Nat)), []) := by
  refine fn_ok f33 (by simp) ?_
  unfold c33
  simp only [go_sem, reduceIte, Nat.reduceEqDiff, Nat.reduceAdd, Nat.reduceLeDiff, Nat.reduceLT]
  refine WP_loop rfl (fun k T H n => ∃ i : Nat, i + k = s.length ∧ a ≤ i ∧ T 1 = .i64 i ∧ sk false (s.drop i) = sk false (s.drop a)) (k0 := s.length - a) ⟨a, by omega, Nat.le_refl _, rfl, rfl⟩ ?_
  rintro k T' H' n' hf ⟨i, hik, hai, h1, hsk⟩
  have h0 : T' 0 = .str s := hf 0 rfl
  clear hf
  by_cases hlt : i < s.length
  · have hlt' : (i : Int) < s.length := by omega
    have hw := wrap_suc (j := i) (by omega)
    have e1 : decide (((s.getD i 0).toNat : Int) = 32) = decide (s.getD i 0 = 32) := u8d (k := 32) (by omega)
    have e2 : decide (((s.getD i 0).toNat : Int) = 9) = decide (s.getD i 0 = 9) := u8d (k := 9) (by omega)
    have e3 : decide (((s.getD i 0).toNat : Int) = 10) = decide (s.getD i 0 = 10) := u8d (k := 10) (by omega)
    have e4 : decide (((s.getD i 0).toNat : Int) = 13) = decide (s.getD i 0 = 13) := u8d (k := 13) (by omega)
    have e5 : decide (((s.getD i 0).toNat : Int) = 45) = decide (s.getD i 0 = 45) := u8d (k := 45) (by omega)
    have e6 : decide (((s.getD (i + 1) 0).toNat : Int) = 45) = decide (s.getD (i + 1) 0 = 45) := u8d (k := 45) (by omega)
    have hd := drop_get hlt
    simp only [go_sem, reduceIte, Nat.reduceEqDiff, Nat.reduceAdd, Nat.reduceLeDiff, Nat.reduceLT, h0, h1, hlt', decide_true, Int.toNat_natCast, hw, e1, e2, e3, e4, e5, e6]
    by_cases hbl : isBl (s.getD i 0) = true
    · rw [if_pos (show (decide (s.getD i 0 = 32) || decide (s.getD i 0 = 9) || decide (s.getD i 0 = 10) || decide (s.getD i 0 = 13)) = true from hbl)]
      exact ⟨k - 1, by omega, i + 1, by omega, by omega, rfl, by rw [← hsk, hd, sk_blank hbl]⟩
    · rw [if_neg (show ¬ (decide (s.getD i 0 = 32) || decide (s.getD i 0 = 9) || decide (s.getD i 0 = 10) || decide (s.getD i 0 = 13)) = true from hbl)]
      by_cases hi2 : s.getD i 0 = 45 ∧ i + 1 < s.length ∧ s.getD (i + 1) 0 = 45
      · obtain ⟨d1, d2, d3⟩ := hi2
        have d2' : ((i + 1 : Nat) : Int) < s.length := by omega
        refine ⟨.inr d2', ?_⟩
        rw [if_neg (by rw [decide_eq_true d1, decide_eq_true d3, decide_eq_false (show ¬ (s.length : Int) ≤ ((i + 1 : Nat) : Int) by omega)]; simp)]
        have hst : sk false (s.drop i) = sk true (s.drop i) := (sk_dash (by rw [hd, drop_get d2, d1, d3]; rfl)).1
        refine WP_mid rfl (Q' := fun e T1 H1 n1 => e = .exit 2 ∧ ∃ m : Nat, i < m ∧ m ≤ s.length ∧ T1 1 = .i64 m ∧ sk false (s.drop m) = sk false (s.drop i)) ?_ ?_
        · refine WP_loop rfl (fun k T H n => ∃ m : Nat, m + k = s.length ∧ i ≤ m ∧ T 1 = .i64 m ∧ sk true (s.drop m) = sk true (s.drop i)) (k0 := s.length - i) ⟨i, by omega, Nat.le_refl _, h1, rfl⟩ ?_
          rintro k2 T2 H2 n2 hf2 ⟨m, hmk, him, g1, hsm⟩
          have g0 : T2 0 = .str s := (hf2 0 rfl).trans h0
          clear hf2
          have hw2 := wrap_suc (j := m) (by omega)
          have e10 : decide (((s.getD m 0).toNat : Int) = 10) = decide (s.getD m 0 = 10) := u8d (k := 10) (by omega)
          by_cases hm : m < s.length
          · have hm2 : decide ((m : Int) < s.length) = true := decide_eq_true (by omega)
            have hm3 : (m : Int) < s.length := by omega
            by_cases h10 : s.getD m 0 = 10
            · rw [decide_eq_true h10] at e10
              simp only [go_sem, reduceIte, Nat.reduceEqDiff, Nat.reduceAdd, Nat.reduceLeDiff, Nat.reduceLT, g0, g1, hm2, hm3, Int.toNat_natCast, e10, hw2]
              have hne : i ≠ m := fun e => by
                rw [e, h10] at d1
                cases d1
              exact ⟨m, by omega, by omega, rfl, by rw [hst, ← hsm]; exact sk_true_stop (.inr (by rw [getD_drop]; exact h10))⟩
            · rw [decide_eq_false h10] at e10
              simp only [go_sem, reduceIte, Nat.reduceEqDiff, Nat.reduceAdd, Nat.reduceLeDiff, Nat.reduceLT, g0, g1, hm2, hm3, Int.toNat_natCast, e10, hw2]
              refine ⟨k2 - 1, by omega, m + 1, by omega, by omega, rfl, ?_⟩
              rw [← hsm, drop_get hm, sk_t, if_neg h10]
          · have hm2 : decide ((m : Int) < s.length) = false := decide_eq_false (by omega)
            simp only [go_sem, reduceIte, Nat.reduceEqDiff, Nat.reduceAdd, Nat.reduceLeDiff, Nat.reduceLT, g0, g1, hm2, Int.toNat_natCast, e10, hw2]
            have hnil : s.drop m = [] := List.drop_of_length_le (by omega)
            exact ⟨fun h => h.elim, m, by omega, by omega, rfl, by rw [hst, ← hsm, hnil]; rfl⟩
        · rintro e T1 H1 n1 hf ⟨rfl, m, hm1, hm2, g1, hsm⟩
          simp only [go_sem, reduceIte, Nat.reduceEqDiff, Nat.reduceAdd, Nat.reduceLeDiff, Nat.reduceLT, g1]
          exact ⟨s.length - m, by omega, m, by omega, by omega, rfl, by rw [hsm, hsk]⟩
      · refine ⟨?_, ?_⟩
        · by_cases h2 : i + 1 < s.length
          · exact .inr (by omega)
          · exact .inl (by rw [decide_eq_true (show (s.length : Int) ≤ ((i + 1 : Nat) : Int) by omega), Bool.or_true])
        · rw [if_pos (by
            by_cases d1 : s.getD i 0 = 45
            · by_cases d2 : i + 1 < s.length
              · by_cases d3 : s.getD (i + 1) 0 = 45
                · exact absurd ⟨d1, d2, d3⟩ hi2
                · rw [decide_eq_false d3, Bool.not_false, Bool.or_true]
              · rw [decide_eq_true (show (s.length : Int) ≤ ((i + 1 : Nat) : Int) by omega), Bool.or_true, Bool.true_or]
            · rw [decide_eq_false d1, Bool.not_false, Bool.true_or, Bool.true_or])]
          rw [skN_of (a := a) (i := i) hai (by omega)]
          rw [← hsk, hd, sk_f, if_neg hbl, if_neg]
          rintro ⟨d1, d2⟩
          refine hi2 ⟨d1, ?_⟩
          by_cases h2 : i + 1 < s.length
          · rw [drop_get h2] at d2
            exact ⟨h2, by simpa using d2⟩
          · rw [List.drop_of_length_le (by omega)] at d2
            cases d2
  · have hlt' : ¬ (i : Int) < s.length := by omega
    simp only [go_sem, reduceIte, Nat.reduceEqDiff, Nat.reduceAdd, Nat.reduceLeDiff, Nat.reduceLT, h0, h1, hlt', decide_false]
    have hn : s.drop i = [] := List.drop_of_length_le (by omega)
    rw [hn, sk_nil] at hsk
    rw [skN_of (a := a) (i := i) hai (by omega) (by rw [← hsk, hn])]
/-! ### words -/
theorem refWord_ok (s : List UInt8) (a : Nat) (ha : a < s.length) (hs : s.length ≤ 1000000) :
    calL EE 34 [.str s, .i64 a] [] = some (.ret (if isKw ((s.drop a).take (spn isWd (s.drop a))) = true
      then .tuple [.st [.int .i64 1, .int .i64 a, .str (((s.drop a).take (spn isWd (s.drop a))).map (mapB 97 65))], .i64 (a + spn isWd (s.drop a) : Nat), .bool true]
      else .tuple [.st [.int .i64 0, .int .i64 a, .str (((s.drop a).take (spn isWd (s.drop a))).map (mapB 65 97))], .i64 (a + spn isWd (s.drop a) : Nat), .bool (decide (spn isWd (s.drop a) ≤ 31))]), []) := by
  refine fn_ok f34 (by simp) ?_
  unfold c34
  simp only [go_sem, reduceIte, Nat.reduceEqDiff, Nat.reduceAdd, Nat.reduceLeDiff, Nat.reduceLT]
  have hle := @spn_le isWd (s.drop a)
  rw [List.length_drop] at hle
  refine WP_mid rfl (Q' := fun e T1 H1 n1 => e = .exit 0 ∧ T1 7 = .i64 (a + spn isWd (s.drop a) : Nat) ∧ H1 0 = .box 30 ([SV.int .i64 0, SV.int .i64 0, SV.str []].map .s)) ?_ ?_
  · refine WP_loop rfl (fun k T H n => ∃ i : Nat, i + k = spn isWd (s.drop a) ∧ T 7 = .i64 (a + i : Nat) ∧ H 0 = .box 30 ([SV.int .i64 0, SV.int .i64 0, SV.str []].map .s)) (k0 := spn isWd (s.drop a)) ⟨0, by omega, rfl, rfl⟩ ?_
    rintro k T' H' n' hf ⟨i, hik, h7, hH⟩
    have h0 : T' 0 = .str s := hf 0 rfl
    clear hf
    have hw := wrap_suc (j := a + i) (by omega)
    have e95 : decide (((s.getD (a + i) 0).toNat : Int) = 95) = decide (s.getD (a + i) 0 = 95) := u8d (k := 95) (by omega)
    have hwd : isWd (s.getD (a + i) 0) = (isLet (s.getD (a + i) 0) || isDig (s.getD (a + i) 0) || decide (s.getD (a + i) 0 = 95)) := rfl
    by_cases hlt : a + i < s.length
    · have hlt' : ((a + i : Nat) : Int) < s.length := by omega
      have hlt2 : decide (((a + i : Nat) : Int) < s.length) = true := decide_eq_true hlt'
      have hx : i < spn isWd (s.drop a) → isWd (s.getD (a + i) 0) = true := fun h => by
        have := spn_in h
        rwa [getD_drop] at this
      have hy : ¬ i < spn isWd (s.drop a) → isWd (s.getD (a + i) 0) = false := fun h => by
        have h1 : spn isWd (s.drop a) < (s.drop a).length := by rw [List.length_drop]; omega
        have := spn_out h1
        rw [getD_drop] at this
        rwa [show i = spn isWd (s.drop a) by omega]
      simp only [go_sem, reduceIte, Nat.reduceEqDiff, Nat.reduceAdd, Nat.reduceLeDiff, Nat.reduceLT, h0, h7, hlt2, Int.toNat_natCast]
      refine ⟨by omega, ?_⟩
      refine WC_p rfl rfl (refLetter_ok _) ?_
      have hgo : isWd (s.getD (a + i) 0) = true → i < spn isWd (s.drop a) := fun h => by
        apply Classical.byContradiction
        intro hn
        rw [hy hn] at h
        cases h
      have hstop : isWd (s.getD (a + i) 0) = false → i = spn isWd (s.drop a) := fun h => by
        apply Classical.byContradiction
        intro hn
        rw [hx (by omega)] at h
        cases h
      cases hb : isLet (s.getD (a + i) 0) with
      | true =>
        have := hgo (by rw [hwd, hb]; rfl)
        simp only [go_sem, reduceIte, Nat.reduceEqDiff, Nat.reduceAdd, Nat.reduceLeDiff, Nat.reduceLT, h0, h7, hlt2, hw]
        exact ⟨k - 1, by omega, i + 1, by omega, rfl, hH⟩
      | false =>
        simp only [go_sem, reduceIte, Nat.reduceEqDiff, Nat.reduceAdd, Nat.reduceLeDiff, Nat.reduceLT, h0, h7, hlt2, hw, Int.toNat_natCast]
        refine ⟨by omega, ?_⟩
        refine WC_p rfl rfl (refDigit_ok _) ?_
        cases hd : isDig (s.getD (a + i) 0) with
        | true =>
          have := hgo (by rw [hwd, hb, hd]; rfl)
          simp only [go_sem, reduceIte, Nat.reduceEqDiff, Nat.reduceAdd, Nat.reduceLeDiff, Nat.reduceLT, h0, h7, hlt2, hw, Int.toNat_natCast]
          exact ⟨k - 1, by omega, i + 1, by omega, rfl, hH⟩
        | false =>
          cases h5 : decide (s.getD (a + i) 0 = 95) with
          | true =>
            have := hgo (by rw [hwd, hb, hd, h5]; rfl)
            rw [h5] at e95
            simp only [go_sem, reduceIte, Nat.reduceEqDiff, Nat.reduceAdd, Nat.reduceLeDiff, Nat.reduceLT, h0, h7, hlt2, hw, Int.toNat_natCast, e95]
            exact ⟨by omega, fun _ => .inr hlt', k - 1, by omega, i + 1, by omega, rfl, hH⟩
          | false =>
            have := hstop (by rw [hwd, hb, hd, h5]; rfl)
            rw [h5] at e95
            simp only [go_sem, reduceIte, Nat.reduceEqDiff, Nat.reduceAdd, Nat.reduceLeDiff, Nat.reduceLT, h0, h7, hlt2, hw, Int.toNat_natCast, e95]
            exact ⟨by omega, fun _ => .inr hlt', by rw [← this], hH⟩
    · have hlt2 : decide (((a + i : Nat) : Int) < s.length) = false := decide_eq_false (by omega)
      simp only [go_sem, reduceIte, Nat.reduceEqDiff, Nat.reduceAdd, Nat.reduceLeDiff, Nat.reduceLT, h0, h7, hlt2]
      exact ⟨by rw [show i = spn isWd (s.drop a) by omega], hH⟩
  · rintro e T1 H1 n1 hf ⟨rfl, h7, hH⟩
    have h0 : T1 0 = .str s := hf 0 rfl
    have h1 : T1 1 = .i64 a := hf 1 rfl
    have h4 : T1 4 = .ptr 0 0 := hf 4 rfl
    clear hf
    have hcut : (s.take (a + spn isWd (s.drop a))).drop a = (s.drop a).take (spn isWd (s.drop a)) := by
      rw [List.drop_take]; congr 1; omega
    generalize hn : spn isWd (s.drop a) = n at *
    have hsub : IntKind.i64.wrap (((a + n : Nat) : Int) - (a : Int)) = (n : Int) := by rw [wrap_in (by omega) (by omega)]; omega
    have h31 : decide ((n : Int) ≤ 31) = decide (n ≤ 31) := decide_eq_decide.2 (by omega)
    simp only [go_sem, reduceIte, Nat.reduceEqDiff, Nat.reduceAdd, Nat.reduceLeDiff, Nat.reduceLT, h0, h1, h7, Int.toNat_natCast, hcut]
    refine ⟨⟨by omega, by omega⟩, ?_⟩
    have hwl : ((s.drop a).take n).length ≤ 1000000 := by rw [List.length_take, List.length_drop]; omega
    refine WC_p rfl rfl (refKw_ok _ hwl) ?_
    cases hk : isKw ((s.drop a).take n) with
    | true =>
      simp only [go_sem, reduceIte, Nat.reduceEqDiff, Nat.reduceAdd, Nat.reduceLeDiff, Nat.reduceLT, h0, h1, h7, Int.toNat_natCast, hcut]
      refine ⟨⟨by omega, by omega⟩, ?_⟩
      refine WC_p rfl rfl (refUpper_ok _ hwl) ?_
      simp only [go_sem, reduceIte, Nat.reduceEqDiff, Nat.reduceAdd, Nat.reduceLeDiff, Nat.reduceLT, h0, h1, h4, h7, hH, Int.toNat_natCast, hcut]
    | false =>
      simp only [go_sem, reduceIte, Nat.reduceEqDiff, Nat.reduceAdd, Nat.reduceLeDiff, Nat.reduceLT, h0, h1, h7, Int.toNat_natCast, hcut]
      refine ⟨⟨by omega, by omega⟩, ?_⟩
      refine WC_p rfl rfl (refLower_ok _ hwl) ?_
      simp only [go_sem, reduceIte, Nat.reduceEqDiff, Nat.reduceAdd, Nat.reduceLeDiff, Nat.reduceLT, h0, h1, h4, h7, hH, Int.toNat_natCast, hcut, hsub, h31]
end Go.Vm
