/- Chapter 23: the law LexerQuote. -/
import Derived.Test.YtpnlogofcecjeaaGreatDoorLxR
set_option linter.unusedVariables false
set_option linter.unusedSimpArgs false
set_option maxRecDepth 100000
namespace Go.Vm
open Go

theorem q2_snoc {b : UInt8} : ∀ {l : List UInt8}, q2 (l ++ [b]) = q2 l ++ (if b = 39 then [39, 39] else [b])
  | [] => by rw [List.nil_append, q2_cons, q2_nil]; simp
  | c :: l => by rw [List.cons_append, q2_cons, q2_cons, q2_snoc, List.append_assoc]
theorem refQuote_ok (s : List UInt8) (hs : s.length ≤ 1000000) : calL EE 19 [.str s] [] = some (.ret (.str (39 :: (q2 s ++ [39]))), []) := by
  refine fn_ok f19 (by simp) ?_
  unfold c19
  simp only [go_sem, reduceIte, Nat.reduceEqDiff, Nat.reduceAdd, Nat.reduceLeDiff, Nat.reduceLT]
  refine WP_scan rfl 4 s.length (fun _ => True) (fun j T H n => T 3 = .str (39 :: q2 (s.take j))) rfl rfl ?_ ?_
  · rintro j T' H' n' hlt hf hi h3 _
    have h0 : T' 0 = .str s := hf 0 rfl
    clear hf
    have hq := q2_len (s.take j)
    rw [List.length_take] at hq
    have e39 : (((s.getD j 0).toNat : Int) = 39) ↔ s.getD j 0 = 39 := u8i (k := 39) (by omega)
    have hn : q2 (s.take (j + 1)) = q2 (s.take j) ++ (if s.getD j 0 = 39 then [39, 39] else [s.getD j 0]) := by
      rw [take_step 0 hlt, q2_snoc]
    simp only [go_sem, reduceIte, Nat.reduceEqDiff, Nat.reduceAdd, Nat.reduceLeDiff, Nat.reduceLT, h0, h3, hi, Int.ofNat_lt, hlt, decide_true, wrap_suc (show j < 9223372036854775807 by omega), Int.toNat_natCast, cut1 hlt, decide_eq_true_eq, e39]
    by_cases hb : s.getD j 0 = 39
    · rw [if_pos hb]
      refine ⟨by omega, ⟨⟨by omega, by omega⟩, by simp only [List.length_append, List.length_cons, List.length_nil]; omega⟩, ⟨by omega, by omega⟩, ?_⟩
      rw [hn, if_pos hb, hb]
      simp
    · rw [if_neg hb]
      refine ⟨⟨⟨by omega, by omega⟩, by omega⟩, ⟨by omega, by omega⟩, ?_⟩
      rw [hn, if_neg hb]
      rfl
  · rintro T' H' n' hf hi h3 _
    have h0 : T' 0 = .str s := hf 0 rfl
    clear hf
    have hq := q2_len s
    rw [List.take_length] at h3
    simp only [go_sem, reduceIte, Nat.reduceEqDiff, Nat.reduceAdd, Nat.reduceLeDiff, Nat.reduceLT, h0, h3, hi, Int.lt_irrefl, decide_false]
    refine ⟨?_, ?_⟩
    · omega
    · rfl
theorem pairs_step {m t : List UInt8} {i : Nat} (hi : i < m.length) (hp : pairs m = (pairs (m.drop i)).map (t ++ ·)) (hb : m.getD i 0 ≠ 39) : pairs m = (pairs (m.drop (i + 1))).map ((t ++ [m.getD i 0]) ++ ·) := by
  rw [hp, drop_get hi, pairs_ne hb, Option.map_map]
  congr 1
  funext x
  simp
theorem pairs_step2 {m t : List UInt8} {i : Nat} (hi : i + 1 < m.length) (hp : pairs m = (pairs (m.drop i)).map (t ++ ·)) (hb : m.getD i 0 = 39) (hc : m.getD (i + 1) 0 = 39) : pairs m = (pairs (m.drop (i + 2))).map ((t ++ [39]) ++ ·) := by
  rw [hp, drop_get (by omega), drop_get hi, hb, hc, pairs_q, Option.map_map]
  congr 1
  funext x
  simp
theorem pairs_bad {m t : List UInt8} {i : Nat} (hi : i < m.length) (hp : pairs m = (pairs (m.drop i)).map (t ++ ·)) (hb : m.getD i 0 = 39) (hc : i + 1 = m.length ∨ m.getD (i + 1) 0 ≠ 39) : pairs m = none := by
  rw [hp, drop_get hi, hb]
  by_cases hl : i + 1 < m.length
  · rw [drop_get hl, pairs_two, if_pos rfl, if_neg (hc.resolve_left (by omega))]
    rfl
  · rw [List.drop_of_length_le (by omega), pairs_one, if_pos rfl]
    rfl
theorem mid_get {s : List UInt8} {i : Nat} (h : i + 2 < s.length) : ((s.take (s.length - 1)).drop 1).getD i 0 = s.getD (i + 1) 0 := by
  rw [List.getD_eq_getElem?_getD, List.getD_eq_getElem?_getD, List.getElem?_drop, List.getElem?_take_of_lt (by omega), Nat.add_comm]
theorem refUnquote_ok (s : List UInt8) (hs : s.length ≤ 1000000) : calL EE 18 [.str s] [] = some (.ret (unqR s), []) := by
  refine fn_ok f18 (by simp) ?_
  unfold c18
  have e0 : (((s.getD (Int.toNat 0) 0).toNat : Int) = 39) ↔ s.getD 0 0 = 39 := u8i (k := 39) (by omega)
  have hw : 1 ≤ s.length → IntKind.i64.wrap ((s.length : Int) - 1) = ((s.length - 1 : Nat) : Int) := fun h1 => by
    rw [wrap_in (by omega) (by omega)]; omega
  simp only [go_sem, reduceIte, Nat.reduceEqDiff, Nat.reduceAdd, Nat.reduceLeDiff, Nat.reduceLT, Bool.or_eq_true, decide_eq_true_eq, Bool.not_eq_true', decide_eq_false_iff_not, e0]
  refine ⟨⟨?_, ?_⟩, ?_⟩
  · by_cases h2 : s.length < 2
    · exact .inl (by omega)
    · exact .inr ⟨by omega, by omega⟩
  · by_cases h2 : s.length < 2
    · exact .inl (.inl (by omega))
    · rw [hw (by omega)]
      exact .inr ⟨by omega, by omega⟩
  by_cases hc : s.length < 2 ∨ s.getD 0 0 ≠ 39 ∨ s.getD (s.length - 1) 0 ≠ 39
  · have hu : unqV s = none := by
      unfold unqV
      rw [if_neg]
      rintro ⟨h1, h2, h3⟩
      rcases hc with hc | hc | hc
      · omega
      · exact hc h2
      · exact hc h3
    rw [if_pos, unqR_none hu]
    · by_cases h2 : s.length < 2
      · exact .inl (.inl (by omega))
      · rw [hw (by omega), Int.toNat_natCast]
        rcases hc with hc | hc | hc
        · exact absurd hc h2
        · exact .inl (.inr hc)
        · exact .inr (fun e => hc ((u8i (k := 39) (by omega)).1 e))
  · simp only [not_or, Classical.not_not] at hc
    obtain ⟨h1, h2, h3⟩ := hc
    rw [if_neg (by
      rw [hw (by omega), Int.toNat_natCast]
      rintro ((h | h) | h)
      · omega
      · exact h h2
      · exact h ((u8i (k := 39) (by omega)).2 h3))]
    have hu : unqV s = pairs ((s.take (s.length - 1)).drop 1) := by
      unfold unqV
      rw [if_pos ⟨by omega, h2, h3⟩]
    have hml : ((s.take (s.length - 1)).drop 1).length = s.length - 2 := by rw [List.length_drop, List.length_take]; omega
    have hmg : ∀ i, i + 2 < s.length → ((s.take (s.length - 1)).drop 1).getD i 0 = s.getD (i + 1) 0 := fun i hi => mid_get hi
    generalize (s.take (s.length - 1)).drop 1 = m at hu hml hmg
    refine WP_loop rfl (fun k T H n => ∃ i t, i + k = m.length ∧ T 5 = .i64 ((i + 1 : Nat) : Int) ∧ T 4 = .str t ∧ t.length ≤ i ∧ pairs m = (pairs (m.drop i)).map (t ++ ·)) (k0 := m.length) ⟨0, [], by omega, rfl, rfl, by simp, by simp⟩ ?_
    rintro k T' H' n' hf ⟨i, t, hik, h5, h4, htl, hp⟩
    have h0 : T' 0 = .str s := hf 0 rfl
    clear hf
    have w0 := hw (by omega)
    have w1 : IntKind.i64.wrap (((i + 1 : Nat) : Int) + 1) = ((i + 2 : Nat) : Int) := wrap_suc (by omega)
    have w2 : IntKind.i64.wrap (((i + 2 : Nat) : Int) + 1) = ((i + 3 : Nat) : Int) := wrap_suc (by omega)
    have c1 : (((s.getD (i + 1) 0).toNat : Int) = 39) ↔ s.getD (i + 1) 0 = 39 := u8i (k := 39) (by omega)
    have c2 : (((s.getD (i + 2) 0).toNat : Int) = 39) ↔ s.getD (i + 2) 0 = 39 := u8i (k := 39) (by omega)
    simp only [go_sem, reduceIte, Nat.reduceEqDiff, Nat.reduceAdd, Nat.reduceLeDiff, Nat.reduceLT, h0, h4, h5, w0, w1, w2, Int.ofNat_lt, Int.toNat_natCast, decide_eq_true_eq, Bool.or_eq_true, Bool.not_eq_true', decide_eq_false_iff_not, c1, c2]
    by_cases hi : i < m.length
    · rw [if_pos (by omega)]
      have hmi := hmg i (by omega)
      refine ⟨by omega, ?_⟩
      by_cases hq : s.getD (i + 1) 0 = 39
      · rw [if_pos hq]
        refine ⟨by omega, ?_⟩
        by_cases hb : i + 1 = m.length ∨ m.getD (i + 1) 0 ≠ 39
        · rw [if_pos (by
            by_cases he : i + 1 = m.length
            · exact .inl (by omega)
            · have e := hmg (i + 1) (by omega)
              exact .inr (fun h => (hb.resolve_left he) (e.trans h))), unqR_none (hu.trans (pairs_bad hi hp (hmi.trans hq) hb))]
        · rw [not_or, Classical.not_not] at hb
          obtain ⟨hb1, hb2⟩ := hb
          have e := hmg (i + 1) (by omega)
          have e2 : s.getD (i + 2) 0 = 39 := e.symm.trans hb2
          rw [if_neg (by
            rintro (h | h)
            · omega
            · exact h e2)]
          have hc : (s.take (i + 3)).drop (i + 2) = [39] := by rw [← e2]; exact cut1 (l := s) (j := i + 2) (by omega)
          rw [hc]
          refine ⟨⟨⟨by omega, by omega⟩, by simp only [List.length_cons, List.length_nil]; omega⟩, ⟨by omega, by omega⟩, k - 2, by omega, i + 2, t ++ [39], by omega, rfl, rfl, by simp; omega, pairs_step2 (by omega) hp (hmi.trans hq) hb2⟩
      · rw [if_neg hq]
        have hc : (s.take (i + 2)).drop (i + 1) = [m.getD i 0] := by rw [hmi]; exact cut1 (l := s) (j := i + 1) (by omega)
        rw [hc]
        refine ⟨⟨⟨by omega, by omega⟩, by simp only [List.length_cons, List.length_nil]; omega⟩, ⟨by omega, by omega⟩, k - 1, by omega, i + 1, t ++ [m.getD i 0], by omega, rfl, rfl, by simp; omega, pairs_step hi hp (fun h => hq (hmi.symm.trans h))⟩
    · rw [if_neg (by omega)]
      rw [List.drop_of_length_le (by omega), pairs_nil] at hp
      rw [unqR_some (hu.trans hp)]
      simp
theorem q2_ge : ∀ l : List UInt8, l.length ≤ (q2 l).length
  | [] => Nat.le_refl _
  | b :: l => by
    have := q2_ge l
    rw [q2_cons, List.length_append, List.length_cons]
    split <;> simp <;> omega
theorem t5 (s : List UInt8) (hs : s.length ≤ 9223372036854775807) : ∃ H' n', runL EE 5 [.str s] (Ob.of []) 0 = some (.ret (.bool true), H', n') := by
  refine run_true ?_
  refine fn_run (R := fun v _ _ => v = .bool true) f5 (by simp) ?_
  unfold c5
  simp only [go_sem, reduceIte, Nat.reduceEqDiff, Nat.reduceAdd, Nat.reduceLeDiff, Nat.reduceLT]
  refine WC_p rfl rfl awake23 ?_
  simp only [go_sem, reduceIte, Nat.reduceEqDiff, Nat.reduceAdd, Nat.reduceLeDiff, Nat.reduceLT, Bool.not_true, decide_eq_true_eq]
  by_cases h600 : 600 < s.length
  · rw [if_pos (by omega)]
    refine WC_p rfl rfl awake23 ?_
    simp only [go_sem, reduceIte, Nat.reduceEqDiff, Nat.reduceAdd, Nat.reduceLeDiff, Nat.reduceLT]
  · rw [if_neg (by omega)]
    have hq2 := q2_len s
    refine WC_p rfl rfl (quote_ok s (by omega)) ?_
    simp only [go_sem, reduceIte, Nat.reduceEqDiff, Nat.reduceAdd, Nat.reduceLeDiff, Nat.reduceLT]
    refine WC_p rfl rfl (unquote_ok _ (by simp; omega)) ?_
    rw [unqR_some (unq_mk s)]
    simp only [go_sem, reduceIte, Nat.reduceEqDiff, Nat.reduceAdd, Nat.reduceLeDiff, Nat.reduceLT, extractV, List.getElem?_cons_succ, List.getElem?_cons_zero]
    refine WC_p rfl rfl (unquote_ok s (by omega)) ?_
    cases hu : unqV s with
    | none =>
      rw [unqR_none hu]
      simp only [go_sem, reduceIte, Nat.reduceEqDiff, Nat.reduceAdd, Nat.reduceLeDiff, Nat.reduceLT, extractV, List.getElem?_cons_succ, List.getElem?_cons_zero]
      refine WC_p rfl rfl (refUnquote_ok s (by omega)) ?_
      rw [unqR_none hu]
      simp only [go_sem, reduceIte, Nat.reduceEqDiff, Nat.reduceAdd, Nat.reduceLeDiff, Nat.reduceLT, extractV, List.getElem?_cons_succ, List.getElem?_cons_zero]
      refine WC_p rfl rfl (refQuote_ok s (by omega)) ?_
      simp only [go_sem, reduceIte, Nat.reduceEqDiff, Nat.reduceAdd, Nat.reduceLeDiff, Nat.reduceLT, decide_true, Bool.and_self, Bool.not_false, beq_self_eq_true]
    | some t =>
      rw [unqR_some hu]
      simp only [go_sem, reduceIte, Nat.reduceEqDiff, Nat.reduceAdd, Nat.reduceLeDiff, Nat.reduceLT, extractV, List.getElem?_cons_succ, List.getElem?_cons_zero]
      refine WC_p rfl rfl (refUnquote_ok s (by omega)) ?_
      rw [unqR_some hu]
      simp only [go_sem, reduceIte, Nat.reduceEqDiff, Nat.reduceAdd, Nat.reduceLeDiff, Nat.reduceLT, extractV, List.getElem?_cons_succ, List.getElem?_cons_zero]
      refine WC_p rfl rfl (refQuote_ok s (by omega)) ?_
      simp only [go_sem, reduceIte, Nat.reduceEqDiff, Nat.reduceAdd, Nat.reduceLeDiff, Nat.reduceLT, decide_true, Bool.and_self, Bool.not_true, beq_self_eq_true]
      have hs' := unq_some hu
      have hg := q2_ge t
      have hl := congrArg List.length hs'
      simp only [List.length_cons, List.length_append, List.length_nil] at hl
      refine WC_p rfl rfl (quote_ok t (by omega)) ?_
      rw [← hs']
      simp only [go_sem, reduceIte, Nat.reduceEqDiff, Nat.reduceAdd, Nat.reduceLeDiff, Nat.reduceLT, decide_true, Bool.and_self, Bool.not_true, beq_self_eq_true]
      try rfl
end Go.Vm
