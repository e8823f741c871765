/- The law ValueRoundTrip: literals come back; run by the machine. -/
import Derived.Test.YtnoambiapjemlaaDoorVlM
set_option linter.unusedVariables false
set_option linter.unusedSimpArgs false
set_option maxRecDepth 100000
namespace Go.Vm

theorem dig_ne {b : UInt8} (h : isDig b = true) : b ≠ 84 ∧ b ≠ 70 ∧ b ≠ 39 ∧ b ≠ 45 := by
  simp only [isDig, Bool.and_eq_true, decide_eq_true_eq] at h
  refine ⟨?_, ?_, ?_, ?_⟩ <;> (intro e; subst e; revert h; decide)
theorem dec_cons (u : Nat) : ∃ b r, Lib.decDigits u = b :: r ∧ isDig b = true := by
  have h := dec_all u
  cases e : Lib.decDigits u with
  | nil => exact absurd e (dec_ne u)
  | cons b r =>
    rw [e, List.all_cons, Bool.and_eq_true] at h
    exact ⟨b, r, rfl, h.1⟩
theorem itoa_neg {n : Int} (h : n < 0) : Lib.itoa n = 45 :: Lib.decDigits n.natAbs := by unfold Lib.itoa; rw [if_pos h]
theorem itoa_pos {n : Int} (h : ¬ n < 0) : Lib.itoa n = Lib.decDigits n.toNat := by unfold Lib.itoa; rw [if_neg h]
theorem itoa_cons (n : Int) : ∃ b r, Lib.itoa n = b :: r ∧ b ≠ 84 ∧ b ≠ 70 ∧ b ≠ 39 := by
  by_cases h : n < 0
  · exact ⟨45, _, itoa_neg h, by decide, by decide, by decide⟩
  · obtain ⟨b, r, h1, h2⟩ := dec_cons n.toNat
    obtain ⟨k1, k2, k3, _⟩ := dig_ne h2
    exact ⟨b, r, by rw [itoa_pos h, h1], k1, k2, k3⟩
theorem strip_neg {r : List UInt8} : stripM (45 :: r) = r := by unfold stripM; rw [if_pos (show (45 :: r).getD 0 0 = 45 from rfl)]; rfl
theorem strip_pos {s : List UInt8} (h : s.getD 0 0 ≠ 45) : stripM s = s := by unfold stripM; rw [if_neg h]
theorem itoa_ok {n : Int} : intOk (Lib.itoa n) = true := by
  unfold intOk
  by_cases h : n < 0
  · have hz := dec_noZ (u := n.natAbs) (by omega)
    rw [itoa_neg h, strip_neg, decide_eq_true (dec_ne _), dec_all, decide_eq_false (show ¬ _ = (48 : UInt8) from hz)]
    rfl
  · obtain ⟨b, r, h1, h2⟩ := dec_cons n.toNat
    have h3 : (Lib.decDigits n.toNat).getD 0 0 ≠ 45 := by rw [h1]; exact (dig_ne h2).2.2.2
    rw [itoa_pos h, strip_pos h3, decide_eq_true (dec_ne _), dec_all]
    by_cases h0 : n.toNat = 0
    · rw [h0, dec_small (by omega)]
      rfl
    · have hz := dec_noZ (u := n.toNat) (by omega)
      rw [decide_eq_false (show ¬ _ = (48 : UInt8) from hz)]
      rfl
theorem itoa_parse {n : Int} (h1 : -9223372036854775808 ≤ n) (h2 : n ≤ 9223372036854775807) : Lib.parseIntB 64 (Lib.itoa n) = .ok n := by
  by_cases h : n < 0
  · rw [itoa_neg h, pi_neg (dec_ne _) (dec_all _), dec_val, if_neg (by omega)]
    congr 1
    omega
  · rw [itoa_pos h, pi_pos (dec_ne _) (dec_all _), dec_val, if_neg (by omega)]
    congr 1
    omega
theorem itoa_of {s : List UInt8} {n : Int} (h : intOk s = true) (hp : Lib.parseIntB 64 s = .ok n) : Lib.itoa n = s ∧ -9223372036854775808 ≤ n ∧ n ≤ 9223372036854775807 := by
  unfold intOk at h
  simp only [Bool.and_eq_true, Bool.not_eq_true', decide_eq_true_eq, Bool.and_eq_false_iff, decide_eq_false_iff_not, Classical.not_not] at h
  obtain ⟨hne, hz, ha⟩ := h
  by_cases h45 : s.getD 0 0 = 45
  · cases s with
    | nil => cases h45
    | cons b r =>
      have hb : b = 45 := h45
      subst hb
      rw [strip_neg] at hne hz ha
      have hz : noZ r := by
        rcases hz with h | h
        · exact h
        · injection h with h; exact absurd h (by decide)
      have hpos := dv_pos hne ha hz
      rw [pi_neg hne ha] at hp
      split at hp
      · cases hp
      · injection hp with hp
        rw [← hp, itoa_neg (by omega)]
        refine ⟨?_, by omega, by omega⟩
        rw [show (-(dv r : Int)).natAbs = dv r by omega, dec_of hne ha (.inl hz)]
  · rw [strip_pos h45] at hne hz ha
    have hz : noZ s ∨ s.length = 1 := by
      rcases hz with h | h
      · exact .inl h
      · exact .inr (by rw [h]; rfl)
    rw [pi_pos hne ha] at hp
    split at hp
    · cases hp
    · injection hp with hp
      rw [← hp, itoa_pos (by omega)]
      refine ⟨?_, by omega, by omega⟩
      rw [show ((dv s : Int)).toNat = dv s by omega, dec_of hne ha hz]
theorem rt1 {v : Val} (hv : validV v = true) (hb : bigV v) : parseV (fmtV v) = (v, 0) := by
  obtain ⟨k, n, t⟩ := v
  unfold fmtV
  rw [if_neg (by rw [hv]; simp)]
  unfold validV at hv
  simp only at hv ⊢
  by_cases h0 : k = 0
  · subst h0
    rw [if_pos rfl] at hv ⊢
    have ht : t = [] := of_decide_eq_true hv
    subst ht
    obtain ⟨b, r, e, n1, n2, n3⟩ := itoa_cons n
    have e1 : Lib.itoa n ≠ txT := by rw [e]; intro h; injection h with h; exact n1 h
    have e2 : Lib.itoa n ≠ txF := by rw [e]; intro h; injection h with h; exact n2 h
    have e3 : unqV (Lib.itoa n) = none := by
      unfold unqV
      rw [if_neg]
      rintro ⟨_, h, _⟩
      rw [e] at h
      exact n3 h
    unfold parseV
    rw [if_neg e1, if_neg e2, e3]
    simp only
    rw [itoa_ok, if_neg (by simp), itoa_parse hb.1 hb.2]
  · rw [if_neg h0] at hv ⊢
    by_cases h1 : k = 1
    · subst h1
      rw [if_pos rfl] at hv ⊢
      simp only [Bool.and_eq_true, decide_eq_true_eq] at hv
      obtain ⟨rfl, hl⟩ := hv
      have e1 : (39 :: (q2 t ++ [39])) ≠ txT := by intro h; injection h with h; revert h; decide
      have e2 : (39 :: (q2 t ++ [39])) ≠ txF := by intro h; injection h with h; revert h; decide
      unfold parseV
      rw [if_neg e1, if_neg e2, unq_mk]
      simp only
      rw [if_neg (by omega)]
    · rw [if_neg h1] at hv ⊢
      by_cases h2 : k = 2
      · subst h2
        rw [if_pos rfl] at hv
        simp only [Bool.and_eq_true, Bool.or_eq_true, decide_eq_true_eq] at hv
        obtain ⟨hn, rfl⟩ := hv
        rcases hn with rfl | rfl
        · rfl
        · rfl
      · rw [if_neg h2] at hv
        cases hv
theorem rt2 (s : List UInt8) : ((parseV s).2 ≠ 0 → (parseV s).1 = vz) ∧ ((parseV s).2 = 0 → validV (parseV s).1 = true ∧ bigV (parseV s).1 ∧ (parseV s).1.text.length ≤ 255 ∧ fmtV (parseV s).1 = s) := by
  unfold parseV
  split
  · rename_i h
    exact ⟨fun h => absurd rfl h, fun _ => ⟨rfl, ⟨by decide, by decide⟩, by simp, h.symm⟩⟩
  · split
    · rename_i h
      exact ⟨fun h => absurd rfl h, fun _ => ⟨rfl, ⟨by decide, by decide⟩, by simp, h.symm⟩⟩
    · split
      · rename_i t ht
        split
        · exact ⟨fun _ => rfl, fun h => absurd h (by decide)⟩
        · rename_i hl
          refine ⟨fun h => absurd rfl h, fun _ => ?_⟩
          have hv : validV ⟨1, 0, t⟩ = true := by
            simp [validV]
            omega
          refine ⟨hv, ⟨show (-9223372036854775808 : Int) ≤ 0 by decide, show (0 : Int) ≤ 9223372036854775807 by decide⟩, by show t.length ≤ 255; omega, ?_⟩
          unfold fmtV
          rw [hv, if_neg (by simp)]
          exact (unq_some ht).symm
      · split
        · exact ⟨fun _ => rfl, fun h => absurd h (by decide)⟩
        · rename_i hi
          split
          · rename_i n hn
            refine ⟨fun h => absurd rfl h, fun _ => ?_⟩
            obtain ⟨k1, k2, k3⟩ := itoa_of (by simpa using hi) hn
            refine ⟨rfl, ⟨k2, k3⟩, by simp, ?_⟩
            unfold fmtV
            rw [show validV ⟨0, n, []⟩ = true from rfl, if_neg (by simp)]
            exact k1
          · exact ⟨fun _ => rfl, fun h => absurd h (by decide)⟩
theorem fmt_len (v : Val) (hb : bigV v) (ht : v.text.length ≤ 300) : (fmtV v).length ≤ 1000 := by
  unfold fmtV
  split
  · simp
  · split
    · by_cases h : v.n < 0
      · have := dec_len v.n.natAbs (by have := hb.1; omega)
        rw [itoa_neg h, List.length_cons]
        omega
      · have := dec_len v.n.toNat (by have := hb.2; omega)
        rw [itoa_pos h]
        omega
    · split
      · have := q2_len v.text
        simp only [List.length_cons, List.length_append, List.length_nil]
        omega
      · split <;> simp
theorem row_eq (a b : Val) : svEqs [1, 1, 2] a.row b.row = some (decide (a = b)) := by
  simp only [Val.row, svEqs_int, svEqs_str, svEqs_nil, bnd_some, Bool.and_true]
  congr 1
  rw [Bool.eq_iff_iff]
  simp only [Bool.and_eq_true, decide_eq_true_eq]
  cases a
  cases b
  simp only [Val.mk.injEq]
theorem t4 (v : Val) (s : List UInt8) (hb : bigV v) (hs : s.length ≤ 9223372036854775807) : ∃ H' n', runL EE 4 [.st v.row, .str s] (Ob.of []) 0 = some (.ret (.bool true), H', n') := by
  refine run_true ?_
  refine fn_run (R := fun v _ _ => v = .bool true) f4 (by simp) ?_
  unfold c4
  simp only [go_sem, reduceIte, Nat.reduceEqDiff, Nat.reduceAdd, Nat.reduceLeDiff, Nat.reduceLT, Val.row]
  refine WC_p rfl rfl awake01 ?_
  simp only [go_sem, reduceIte, Nat.reduceEqDiff, Nat.reduceAdd, Nat.reduceLeDiff, Nat.reduceLT, Val.row, Bool.or_eq_true, decide_eq_true_eq]
  split
  · trivial
  · rename_i hc
    have hl1 : v.text.length ≤ 300 := by omega
    have hl2 : s.length ≤ 600 := by omega
    refine WC_p rfl rfl (t15 v) ?_
    simp only [go_sem, reduceIte, Nat.reduceEqDiff, Nat.reduceAdd, Nat.reduceLeDiff, Nat.reduceLT, Val.row]
    cases hv : validV v with
    | true =>
      rw [if_pos rfl]
      refine WC_p rfl rfl (t13 v hb (by omega)) ?_
      simp only [go_sem, reduceIte, Nat.reduceEqDiff, Nat.reduceAdd, Nat.reduceLeDiff, Nat.reduceLT, Val.row]
      have hfl := fmt_len v hb hl1
      refine WC_p rfl rfl (t11 (fmtV v) (by omega)) ?_
      rw [rt1 hv hb]
      simp only [go_sem, reduceIte, Nat.reduceEqDiff, Nat.reduceAdd, Nat.reduceLeDiff, Nat.reduceLT, Val.row, extractV, decide_true]
      refine WC_p rfl rfl (t11 s (by omega)) ?_
      obtain ⟨r1, r2⟩ := rt2 s
      generalize parseV s = r at r1 r2 ⊢
      obtain ⟨w, e⟩ := r
      simp only at r1 r2
      simp only [go_sem, reduceIte, Nat.reduceEqDiff, Nat.reduceAdd, Nat.reduceLeDiff, Nat.reduceLT, Val.row, extractV, Bool.not_eq_true', decide_eq_false_iff_not]
      split
      · rename_i he
        rw [r1 he]
        rfl
      · rename_i he
        obtain ⟨g1, g2, g3, g4⟩ := r2 (by simpa using he)
        refine WC_p rfl rfl (t15 w) ?_
        simp only [go_sem, reduceIte, Nat.reduceEqDiff, Nat.reduceAdd, Nat.reduceLeDiff, Nat.reduceLT, Val.row, g1]
        refine WC_p rfl rfl (t13 w g2 (by omega)) ?_
        simp only [go_sem, reduceIte, Nat.reduceEqDiff, Nat.reduceAdd, Nat.reduceLeDiff, Nat.reduceLT, Val.row, g4, decide_true]
    | false =>
      rw [if_neg (by simp)]
      refine WC_p rfl rfl (t13 v hb (by omega)) ?_
      have hf : fmtV v = [] := by unfold fmtV; rw [if_pos hv]
      simp only [go_sem, reduceIte, Nat.reduceEqDiff, Nat.reduceAdd, Nat.reduceLeDiff, Nat.reduceLT, Val.row, hf, decide_true]
      refine WC_p rfl rfl (t11 s (by omega)) ?_
      obtain ⟨r1, r2⟩ := rt2 s
      generalize parseV s = r at r1 r2 ⊢
      obtain ⟨w, e⟩ := r
      simp only at r1 r2
      simp only [go_sem, reduceIte, Nat.reduceEqDiff, Nat.reduceAdd, Nat.reduceLeDiff, Nat.reduceLT, Val.row, extractV, Bool.not_eq_true', decide_eq_false_iff_not]
      split
      · rename_i he
        rw [r1 he]
        rfl
      · rename_i he
        obtain ⟨g1, g2, g3, g4⟩ := r2 (by simpa using he)
        refine WC_p rfl rfl (t15 w) ?_
        simp only [go_sem, reduceIte, Nat.reduceEqDiff, Nat.reduceAdd, Nat.reduceLeDiff, Nat.reduceLT, Val.row, g1]
        refine WC_p rfl rfl (t13 w g2 (by omega)) ?_
        simp only [go_sem, reduceIte, Nat.reduceEqDiff, Nat.reduceAdd, Nat.reduceLeDiff, Nat.reduceLT, Val.row, g4, decide_true]
end Go.Vm
