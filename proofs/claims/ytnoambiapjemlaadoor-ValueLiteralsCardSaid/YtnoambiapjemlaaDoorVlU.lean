/- The law ValueLiterals, run by the machine. -/
import Derived.Test.YtnoambiapjemlaaDoorVlQ
set_option linter.unusedVariables false
set_option linter.unusedSimpArgs false
set_option maxRecDepth 100000
namespace Go.Vm

theorem intOk_bad {s : List UInt8} (h : stripM s = [] ∨ ((stripM s).getD 0 0 = 48 ∧ s ≠ [48]) ∨ (stripM s).all isDig = false) : intOk s = false := by
  unfold intOk
  rcases h with h | h | h
  · rw [decide_eq_false (fun e => e h), Bool.false_and]
  · rw [decide_eq_true h.1, decide_eq_true h.2, Bool.and_self, Bool.not_true, Bool.false_and, Bool.and_false]
  · rw [h, Bool.and_false, Bool.and_false]
theorem intOk_good {s : List UInt8} (h1 : stripM s ≠ []) (h2 : (stripM s).getD 0 0 = 48 → s = [48]) (h3 : (stripM s).all isDig = true) : intOk s = true := by
  unfold intOk
  rw [decide_eq_true h1, h3]
  by_cases h : (stripM s).getD 0 0 = 48
  · rw [decide_eq_false (show ¬ s ≠ [48] from fun e => e (h2 h)), Bool.and_false]
    rfl
  · rw [decide_eq_false h, Bool.false_and]
    rfl
/-- What the reference makes of a numeral. -/
def intV (s : List UInt8) : Val × Int :=
  if intOk s = false then (vz, 3) else match Lib.parseIntB 64 s with
    | .ok n => (⟨0, n, []⟩, 0)
    | _ => (vz, 2)
theorem parse_int {s : List UInt8} (h1 : s ≠ txT) (h2 : s ≠ txF) (hu : unqV s = none) : parseV s = intV s := by
  unfold parseV intV
  rw [if_neg h1, if_neg h2, hu]
  rfl
theorem intV_neg {r : List UInt8} (h : r ≠ [48]) : intV (45 :: r) = if (numV r 9223372036854775808).2 ≠ 0 then (vz, (numV r 9223372036854775808).2) else (⟨0, -((numV r 9223372036854775808).1 : Int), []⟩, 0) := by
  unfold numV
  have hs : stripM (45 :: r) = r := strip_neg
  by_cases c1 : r = [] ∨ (r.getD 0 0 = 48 ∧ 1 < r.length)
  · rw [if_pos c1]
    have : intOk (45 :: r) = false := intOk_bad (by
      rw [hs]
      rcases c1 with c | c
      · exact .inl c
      · exact .inr (.inl ⟨c.1, fun e => by injection e with e; exact absurd e (by decide)⟩))
    unfold intV
    rw [if_pos this]
    rfl
  · rw [if_neg c1]
    by_cases c2 : r.all isDig = false
    · rw [if_pos c2]
      have : intOk (45 :: r) = false := intOk_bad (by rw [hs]; exact .inr (.inr c2))
      unfold intV
      rw [if_pos this]
      rfl
    · rw [if_neg c2]
      have c2 : r.all isDig = true := by simpa using c2
      have hne : r ≠ [] := fun e => c1 (.inl e)
      have hz : r.getD 0 0 ≠ 48 := by
        intro e
        have : ¬ 1 < r.length := fun h => c1 (.inr ⟨e, h⟩)
        match r, hne, e with
        | [b], _, e => exact h (by have e : b = 48 := e; rw [e])
        | b :: c :: r, _, _ => simp at this
      have : intOk (45 :: r) = true := intOk_good (by rw [hs]; exact hne) (by rw [hs]; exact fun e => absurd e hz) (by rw [hs]; exact c2)
      unfold intV
      rw [if_neg (by rw [this]; simp), pi_neg hne c2]
      by_cases c3 : 9223372036854775808 < dv r
      · rw [if_pos c3, if_pos c3]
        rfl
      · rw [if_neg c3, if_neg c3]
        rfl
theorem intV_pos {s : List UInt8} (h : s.getD 0 0 ≠ 45) : intV s = if (numV s 9223372036854775807).2 ≠ 0 then (vz, (numV s 9223372036854775807).2) else (⟨0, ((numV s 9223372036854775807).1 : Int), []⟩, 0) := by
  unfold numV
  have hs : stripM s = s := strip_pos h
  by_cases c1 : s = [] ∨ (s.getD 0 0 = 48 ∧ 1 < s.length)
  · rw [if_pos c1]
    have : intOk s = false := intOk_bad (by
      rw [hs]
      rcases c1 with c | c
      · exact .inl c
      · exact .inr (.inl ⟨c.1, fun e => by rw [e] at c; exact absurd c.2 (by decide)⟩))
    unfold intV
    rw [if_pos this]
    rfl
  · rw [if_neg c1]
    by_cases c2 : s.all isDig = false
    · rw [if_pos c2]
      have : intOk s = false := intOk_bad (by rw [hs]; exact .inr (.inr c2))
      unfold intV
      rw [if_pos this]
      rfl
    · rw [if_neg c2]
      have c2 : s.all isDig = true := by simpa using c2
      have hne : s ≠ [] := fun e => c1 (.inl e)
      have hz : s.getD 0 0 = 48 → s = [48] := by
        intro e
        have : ¬ 1 < s.length := fun h => c1 (.inr ⟨e, h⟩)
        match s, hne, e with
        | [b], _, e => have e : b = 48 := e; rw [e]
        | b :: c :: r, _, _ => simp at this
      have : intOk s = true := intOk_good (by rw [hs]; exact hne) (by rw [hs]; exact hz) (by rw [hs]; exact c2)
      unfold intV
      rw [if_neg (by rw [this]; simp), pi_pos hne c2]
      by_cases c3 : 9223372036854775807 < dv s
      · rw [if_pos c3, if_pos c3]
        rfl
      · rw [if_neg c3, if_neg c3]
        rfl
theorem num_le (s : List UInt8) (m : Nat) : (numV s m).1 ≤ m := by
  unfold numV
  split
  · exact Nat.zero_le _
  · split
    · exact Nat.zero_le _
    · split
      · exact Nat.zero_le _
      · show dv s ≤ m; omega
theorem t12 (s : List UInt8) (h : s.length ≤ 1000000) : calL EE 12 [.str s] [] = some (.ret (.tuple [.st (parseV s).1.row, .i64 (parseV s).2]), []) := by
  refine fn_ok f12 (by simp) ?_
  unfold c12
  simp only [go_sem, reduceIte, Nat.reduceEqDiff, Nat.reduceAdd, Nat.reduceLeDiff, Nat.reduceLT, decide_eq_true_eq]
  by_cases h1 : s = txT
  · have e : parseV s = (⟨2, 1, []⟩, 0) := by unfold parseV; rw [if_pos h1]
    rw [if_pos h1, e]
    rfl
  · rw [if_neg h1]
    by_cases h2 : s = txF
    · have e : parseV s = (⟨2, 0, []⟩, 0) := by unfold parseV; rw [if_neg h1, if_pos h2]
      rw [if_pos h2, e]
      rfl
    · rw [if_neg h2]
      refine WC_p rfl rfl (t32 s h) ?_
      unfold unqR
      cases hu : unqV s with
      | some u =>
        simp only [go_sem, reduceIte, Nat.reduceEqDiff, Nat.reduceAdd, Nat.reduceLeDiff, Nat.reduceLT, extractV, decide_eq_true_eq]
        split
        · rename_i hl
          have e : parseV s = (vz, 6) := by unfold parseV; rw [if_neg h1, if_neg h2, hu]; simp only; rw [if_pos (by omega)]
          rw [e]
          rfl
        · rename_i hl
          have e : parseV s = (⟨1, 0, u⟩, 0) := by unfold parseV; rw [if_neg h1, if_neg h2, hu]; simp only; rw [if_neg (by omega)]
          rw [e]
          rfl
      | none =>
        rw [parse_int h1 h2 hu]
        simp only [go_sem, reduceIte, Nat.reduceEqDiff, Nat.reduceAdd, Nat.reduceLeDiff, Nat.reduceLT, extractV, decide_eq_true_eq, Bool.and_eq_true, Bool.not_eq_true', decide_eq_false_iff_not]
        by_cases hz : s = [45, 48]
        · rw [if_pos hz, hz]
          rfl
        · rw [if_neg hz]
          have c0 : (((s.getD (Int.toNat 0) 0).toNat : Int) = 45) ↔ s.getD 0 0 = 45 := u8i (k := 45) (by omega)
          simp only [c0]
          refine ⟨fun hne => ?_, ?_⟩
          · cases s with
            | nil => exact absurd rfl hne
            | cons b s => exact ⟨by omega, by simp only [List.length_cons]; omega⟩
          · by_cases hc : ¬ s = [] ∧ s.getD 0 0 = 45
            · rw [if_pos hc]
              obtain ⟨hne, hb⟩ := hc
              match s, hne, hb with
              | b :: r, _, hb =>
                have hb : b = 45 := hb
                subst hb
                simp only [List.length_cons] at h ⊢
                have er : List.drop (Int.toNat 1) (List.take (r.length + 1) (45 :: r)) = r := by
                  rw [show r.length + 1 = (45 :: r).length from rfl, List.take_length]
                  rfl
                rw [er]
                refine ⟨⟨by omega, by omega⟩, ?_⟩
                refine WC_p rfl rfl (t33 r 9223372036854775808 (by omega) ⟨by omega, by omega⟩) ?_
                have hle := num_le r 9223372036854775808
                have hr : r ≠ [48] := fun e => hz (by rw [e])
                rw [intV_neg hr]
                generalize numV r 9223372036854775808 = q at hle ⊢
                obtain ⟨n, e⟩ := q
                simp only [go_sem, reduceIte, Nat.reduceEqDiff, Nat.reduceAdd, Nat.reduceLeDiff, Nat.reduceLT, extractV, Bool.not_eq_true', decide_eq_false_iff_not] at hle ⊢
                by_cases he : e = 0
                · subst he
                  have w1 : IntKind.i64.wrap (IntKind.u64.wrap (0 - (n : Int))) = -(n : Int) := by
                    rw [IntKind.wrap_u64, IntKind.wrap_i64]; omega
                  simp only [not_true_eq_false, ne_eq, if_false, w1]
                  rfl
                · simp only [he, not_false_eq_true, ne_eq, if_true]
                  rfl
            · rw [if_neg hc]
              have hb : s.getD 0 0 ≠ 45 := by
                intro hb
                cases s with
                | nil => exact absurd hb (by decide)
                | cons b r => exact hc ⟨by simp, hb⟩
              refine WC_p rfl rfl (t33 s 9223372036854775807 h ⟨by omega, by omega⟩) ?_
              have hle := num_le s 9223372036854775807
              rw [intV_pos hb]
              generalize numV s 9223372036854775807 = q at hle ⊢
              obtain ⟨n, e⟩ := q
              simp only [go_sem, reduceIte, Nat.reduceEqDiff, Nat.reduceAdd, Nat.reduceLeDiff, Nat.reduceLT, extractV, Bool.not_eq_true', decide_eq_false_iff_not] at hle ⊢
              by_cases he : e = 0
              · subst he
                have w1 : IntKind.i64.wrap (n : Int) = (n : Int) := wrap_in (by omega) (by omega)
                simp only [not_true_eq_false, ne_eq, if_false, w1]
                rfl
              · simp only [he, not_false_eq_true, ne_eq, if_true]
                rfl
theorem t3 (v : Val) (s : List UInt8) (hb : bigV v) (hs : s.length ≤ 9223372036854775807) : ∃ H' n', runL EE 3 [.st v.row, .str s] (Ob.of []) 0 = some (.ret (.bool true), H', n') := by
  refine run_true ?_
  refine fn_run (R := fun v _ _ => v = .bool true) f3 (by simp) ?_
  unfold c3
  simp only [go_sem, reduceIte, Nat.reduceEqDiff, Nat.reduceAdd, Nat.reduceLeDiff, Nat.reduceLT, Val.row]
  refine WC_p rfl rfl awake01 ?_
  simp only [go_sem, reduceIte, Nat.reduceEqDiff, Nat.reduceAdd, Nat.reduceLeDiff, Nat.reduceLT, Val.row, Bool.or_eq_true, decide_eq_true_eq]
  split
  · trivial
  · rename_i hc
    have hl1 : v.text.length ≤ 300 := by omega
    have hl2 : s.length ≤ 600 := by omega
    refine WC_p rfl rfl (t11 s (by omega)) ?_
    simp only [go_sem, reduceIte, Nat.reduceEqDiff, Nat.reduceAdd, Nat.reduceLeDiff, Nat.reduceLT, Val.row, extractV]
    refine WC_p rfl rfl (t12 s (by omega)) ?_
    simp only [go_sem, reduceIte, Nat.reduceEqDiff, Nat.reduceAdd, Nat.reduceLeDiff, Nat.reduceLT, Val.row, extractV]
    refine WC_p rfl rfl (t13 v hb (by omega)) ?_
    simp only [go_sem, reduceIte, Nat.reduceEqDiff, Nat.reduceAdd, Nat.reduceLeDiff, Nat.reduceLT, Val.row, extractV]
    refine WC_p rfl rfl (t14 v hb (by omega)) ?_
    simp only [go_sem, reduceIte, Nat.reduceEqDiff, Nat.reduceAdd, Nat.reduceLeDiff, Nat.reduceLT, Val.row, extractV, decide_true]
end Go.Vm
