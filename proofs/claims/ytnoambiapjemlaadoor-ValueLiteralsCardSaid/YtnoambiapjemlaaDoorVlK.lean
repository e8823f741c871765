/- The law ValueLiterals: the reference's Format and Parse give the same; run by the machine. -/
import Derived.Test.YtnoambiapjemlaaDoorVlN
set_option linter.unusedVariables false
set_option linter.unusedSimpArgs false
set_option maxRecDepth 100000
namespace Go.Vm

theorem cut1 {l : List UInt8} {j : Nat} (h : j < l.length) : (l.take (j + 1)).drop j = [l.getD j 0] := by
  rw [take_step 0 h, List.drop_append, List.length_take, Nat.min_eq_left (by omega), Nat.sub_self, List.drop_zero, List.drop_of_length_le (by rw [List.length_take]; omega)]
  rfl
theorem bytes1 {H : Ob} {n : Nat} {x : Int} {b : Bool} : convM (.str true) H n (.s (.slice [[.int .u8 x]] b)) = some (.s (.str [UInt8.ofNat x.toNat]), H) := rfl
theorem dec_len' (u : Nat) (h : u ≤ 18446744073709551615) : (Lib.decDigits u).length ≤ 21 := by
  by_cases h1 : u < 10
  · rw [dec_small h1]; simp
  · rw [dec_big h1, List.length_append]
    have := dec_len (u / 10) (by omega)
    simp
    omega
theorem t56 (u : Nat) (hu : u ≤ 18446744073709551615) : calL EE 56 [.s (.int .u64 u)] [] = some (.ret (.str (Lib.decDigits u)), []) := by
  induction u using Nat.strongRecOn with
  | _ u ih =>
    refine fn_ok f56 (by simp) ?_
    unfold c56
    simp only [go_sem, reduceIte, Nat.reduceEqDiff, Nat.reduceAdd, Nat.reduceLeDiff, Nat.reduceLT, decide_eq_true_eq]
    split
    · rename_i h
      rw [IntWalk.u64_in _ (by omega), IntWalk.u8_in _ (by omega), bytes1]
      simp only [go_sem, reduceIte, Nat.reduceEqDiff, Nat.reduceAdd, Nat.reduceLeDiff, Nat.reduceLT]
      rw [dec_small (by omega), show ((48 : Int) + (u : Int)).toNat = 48 + u by omega]
    · rename_i h
      have h10 : ((10 : Int) ≠ 0) = True := by simp
      simp only [go_sem, reduceIte, Nat.reduceEqDiff, Nat.reduceAdd, Nat.reduceLeDiff, Nat.reduceLT, h10]
      have e1 : IntKind.u64.wrap ((u : Int).tdiv 10) = ((u / 10 : Nat) : Int) := by
        rw [IntWalk.u64_quo _ _ ⟨by omega, by omega, by omega⟩]; omega
      rw [e1]
      refine WC_p rfl rfl (ih (u / 10) (by omega) (by omega)) ?_
      have hl := dec_len' (u / 10) (by omega)
      simp only [go_sem, reduceIte, Nat.reduceEqDiff, Nat.reduceAdd, Nat.reduceLeDiff, Nat.reduceLT, h10, bytes1]
      have e2 : (u : Int).tmod 10 = ((u % 10 : Nat) : Int) := by
        rw [Int.tmod_eq_emod_of_nonneg (by omega)]; omega
      have e3 : IntKind.u64.wrap (48 + ((u % 10 : Nat) : Int)) = ((48 + u % 10 : Nat) : Int) := by
        rw [IntWalk.u64_in _ (by omega)]; omega
      have e4 : IntKind.u8.wrap ((48 + u % 10 : Nat) : Int) = ((48 + u % 10 : Nat) : Int) := IntWalk.u8_in _ (by omega)
      rw [e2, e3, e4]
      refine ⟨?_, rfl, ?_⟩
      · omega
      · rw [dec_big (u := u) (by omega), Int.toNat_natCast]
theorem t36 (n : Int) (h1 : -9223372036854775808 ≤ n) (h2 : n ≤ 9223372036854775807) : calL EE 36 [.i64 n] [] = some (.ret (.str (Lib.itoa n)), []) := by
  refine fn_ok f36 (by simp) ?_
  unfold c36
  simp only [go_sem, reduceIte, Nat.reduceEqDiff, Nat.reduceAdd, Nat.reduceLeDiff, Nat.reduceLT, decide_eq_true_eq]
  split
  · rename_i h
    have e : IntKind.u64.wrap (0 - IntKind.u64.wrap n) = ((n.natAbs : Nat) : Int) := by
      rw [IntKind.wrap_u64, IntKind.wrap_u64]; omega
    rw [e]
    refine WC_p rfl rfl (t56 n.natAbs (by omega)) ?_
    have hl := dec_len' n.natAbs (by omega)
    simp only [go_sem, reduceIte, Nat.reduceEqDiff, Nat.reduceAdd, Nat.reduceLeDiff, Nat.reduceLT]
    refine ⟨by omega, ?_⟩
    rw [itoa_neg h]
    rfl
  · rename_i h
    have e : IntKind.u64.wrap n = ((n.toNat : Nat) : Int) := by
      rw [IntKind.wrap_u64]; omega
    rw [e]
    refine WC_p rfl rfl (t56 n.toNat (by omega)) ?_
    simp only [go_sem, reduceIte, Nat.reduceEqDiff, Nat.reduceAdd, Nat.reduceLeDiff, Nat.reduceLT]
    rw [itoa_pos h]
theorem q2_snoc {b : UInt8} : ∀ {l : List UInt8}, q2 (l ++ [b]) = q2 l ++ (if b = 39 then [39, 39] else [b])
  | [] => by rw [List.nil_append, q2_cons, q2_nil]; simp
  | c :: l => by rw [List.cons_append, q2_cons, q2_cons, q2_snoc, List.append_assoc]
theorem t14 (v : Val) (hb : bigV v) (ht : v.text.length ≤ 100000) : calL EE 14 [.st v.row] [] = some (.ret (.str (fmtV v)), []) := by
  refine fn_ok f14 (by simp) ?_
  unfold c14
  simp only [go_sem, reduceIte, Nat.reduceEqDiff, Nat.reduceAdd, Nat.reduceLeDiff, Nat.reduceLT, Val.row]
  refine WC_p rfl rfl (t23 v) ?_
  simp only [go_sem, reduceIte, Nat.reduceEqDiff, Nat.reduceAdd, Nat.reduceLeDiff, Nat.reduceLT, Val.row, Bool.not_eq_true', decide_eq_true_eq]
  by_cases hv : validV v = false
  · rw [if_pos hv]
    unfold fmtV
    rw [if_pos hv]
  · rw [if_neg hv]
    have hf : fmtV v = if v.kind = 0 then Lib.itoa v.n else if v.kind = 1 then 39 :: (q2 v.text ++ [39]) else if v.n = 1 then txT else txF := by
      unfold fmtV; rw [if_neg hv]
    rw [hf]
    by_cases h0 : v.kind = 0
    · rw [if_pos h0, if_pos h0]
      refine WC_p rfl rfl (t36 v.n hb.1 hb.2) ?_
      simp only [go_sem, reduceIte, Nat.reduceEqDiff, Nat.reduceAdd, Nat.reduceLeDiff, Nat.reduceLT]
    · rw [if_neg h0, if_neg h0]
      by_cases h2 : v.kind = 2
      · rw [if_pos h2, if_neg (show ¬ v.kind = 1 by omega)]
        split
        · rfl
        · rfl
      · rw [if_neg h2]
        have h1 : v.kind = 1 := by
          unfold validV at hv
          rw [if_neg h0] at hv
          apply Classical.byContradiction
          intro h1
          rw [if_neg h1, if_neg h2] at hv
          exact hv rfl
        rw [if_pos h1]
        refine WP_scan rfl 4 v.text.length (fun _ => True) (fun j T H n => T 3 = .str (39 :: q2 (v.text.take j)) ∧ H 0 = .box 23 (v.row.map .s)) rfl ⟨rfl, rfl⟩ ?_ ?_
        · rintro j T' H' n' hlt hf hi ⟨h3, hH⟩ _
          have hp : T' 1 = .ptr 0 0 := hf 1 rfl
          clear hf
          have hq := q2_len (v.text.take j)
          rw [List.length_take] at hq
          simp only [go_sem, reduceIte, Nat.reduceEqDiff, Nat.reduceAdd, Nat.reduceLeDiff, Nat.reduceLT, hp, h3, hi, hH, Val.row, Int.ofNat_lt, hlt, decide_true, wrap_suc (show j < 9223372036854775807 by omega), Int.toNat_natCast, cut1 hlt, decide_eq_true_eq]
          have e39 : (((v.text.getD j 0).toNat : Int) = 39) ↔ v.text.getD j 0 = 39 := u8i (k := 39) (by omega)
          have hlen : (39 :: q2 (v.text.take j) ++ [v.text.getD j 0]).length ≤ 1000000 := by
            simp only [List.cons_append, List.length_cons, List.length_append, List.length_nil]; omega
          have hn : q2 (v.text.take (j + 1)) = q2 (v.text.take j) ++ (if v.text.getD j 0 = 39 then [39, 39] else [v.text.getD j 0]) := by
            rw [take_step 0 hlt, q2_snoc]
          refine ⟨⟨?_, ?_⟩, ?_, ?_⟩
          · omega
          · omega
          · omega
          · split
            · rename_i h
              refine ⟨?_, ?_⟩
              · omega
              · rw [hn, if_pos (e39.1 h), e39.1 h]
                simp
            · rename_i h
              rw [hn, if_neg (fun e => h (e39.2 e))]
              rfl
        · rintro T' H' n' hf hi ⟨h3, hH⟩ _
          have hp : T' 1 = .ptr 0 0 := hf 1 rfl
          clear hf
          have hq := q2_len v.text
          rw [List.take_length] at h3
          simp only [go_sem, reduceIte, Nat.reduceEqDiff, Nat.reduceAdd, Nat.reduceLeDiff, Nat.reduceLT, hp, h3, hi, hH, Val.row, Int.lt_irrefl, decide_false]
          refine ⟨?_, ?_⟩
          · omega
          · rfl
end Go.Vm
