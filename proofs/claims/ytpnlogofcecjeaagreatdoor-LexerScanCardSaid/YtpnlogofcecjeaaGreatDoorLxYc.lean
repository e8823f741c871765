/- Chapter 23: the reference's strings and symbols. -/
import Derived.Test.YtpnlogofcecjeaaGreatDoorLxYb
set_option linter.unusedVariables false
set_option linter.unusedSimpArgs false
set_option maxRecDepth 100000
namespace Go.Vm
open Go

/-! ### symbols -/
theorem sym_two {b c : UInt8} (h : [b, c] ∈ symA) : symB b (some c) = some [b, c] := by
  simp [symA] at h
  rcases h with ⟨rfl, rfl⟩ | ⟨rfl, rfl⟩ | ⟨rfl, rfl⟩ | ⟨rfl, rfl⟩ <;> rfl
theorem sym_one {b : UInt8} {c : Option UInt8} (h : [b] ∈ symA) (h2 : ∀ d, c = some d → [b, d] ∉ symA) : symB b c = some [b] := by
  simp [symA] at h
  cases c with
  | none => rcases h with rfl | rfl | rfl | rfl | rfl | rfl | rfl | rfl | rfl | rfl | rfl <;> rfl
  | some d =>
    have h2 := h2 d rfl
    rcases h with rfl | rfl | rfl | rfl | rfl | rfl | rfl | rfl | rfl | rfl | rfl <;> simp_all [symA, symB]
theorem sym_no {b : UInt8} {c : Option UInt8} (h : [b] ∉ symA) (h2 : ∀ d, c = some d → [b, d] ∉ symA) : symB b c = none := by
  simp [symA] at h
  cases c with
  | none => simp_all [symB]
  | some d =>
    have h2 := h2 d rfl
    simp [symA] at h2
    simp_all [symB]
theorem symF_two {r : List UInt8} (h : 2 ≤ r.length) (hm : r.take 2 ∈ symA) : symF r = some (r.take 2) := by
  match r, h with
  | b :: c :: r, _ => rw [symF_eq]; exact sym_two hm
theorem two_no {b : UInt8} {r : List UInt8} (h2 : ¬ (2 ≤ (b :: r).length ∧ (b :: r).take 2 ∈ symA)) : ∀ d, r.head? = some d → [b, d] ∉ symA := by
  intro d hd hm
  cases r with
  | nil => cases hd
  | cons c r =>
    have e : c = d := by simpa using hd
    subst e
    exact h2 ⟨by simp, hm⟩
theorem symF_one {r : List UInt8} (h : r ≠ []) (hm : r.take 1 ∈ symA) (h2 : ¬ (2 ≤ r.length ∧ r.take 2 ∈ symA)) : symF r = some (r.take 1) := by
  match r, h with
  | b :: r, _ => rw [symF_eq]; exact sym_one hm (two_no h2)
theorem symF_no {r : List UInt8} (h : r ≠ []) (hm : ¬ r.take 1 ∈ symA) (h2 : ¬ (2 ≤ r.length ∧ r.take 2 ∈ symA)) : symF r = none := by
  match r, h with
  | b :: r, _ => rw [symF_eq]; exact sym_no hm (two_no h2)
def symRR (s : List UInt8) (a : Nat) : PV := match symF (s.drop a) with
  | some x => .tuple [.st [.int .i64 4, .int .i64 a, .str x], .i64 (a + x.length : Nat), .bool true]
  | none => .tuple [.st noTok, .i64 a, .bool false]
theorem symRR_some {s x : List UInt8} {a : Nat} (h : symF (s.drop a) = some x) : symRR s a = .tuple [.st [.int .i64 4, .int .i64 a, .str x], .i64 (a + x.length : Nat), .bool true] := by unfold symRR; rw [h]
theorem symRR_none {s : List UInt8} {a : Nat} (h : symF (s.drop a) = none) : symRR s a = .tuple [.st noTok, .i64 a, .bool false] := by unfold symRR; rw [h]
theorem refSym_ok (s : List UInt8) (a : Nat) (ha : a < s.length) (hs : s.length ≤ 1000000) : calL EE 37 [.str s, .i64 a] [] = some (.ret (symRR s a), []) := by
  refine fn_ok f37 (by simp) ?_
  unfold c37
  simp only [go_sem, reduceIte, Nat.reduceEqDiff, Nat.reduceAdd, Nat.reduceLeDiff, Nat.reduceLT]
  have hd0 : s.drop a ≠ [] := fun e => by
    have := congrArg List.length e
    rw [List.length_drop, List.length_nil] at this
    omega
  have hrl : (s.drop a).length = s.length - a := List.length_drop
  refine WP_loop rfl (fun k T H n => T 7 = .i64 k ∧ k ≤ 2 ∧ (k < 2 → ¬ (2 ≤ (s.drop a).length ∧ (s.drop a).take 2 ∈ symA)) ∧ (k < 1 → ¬ (s.drop a).take 1 ∈ symA) ∧ H 0 = .box 30 (noTok.map .s)) (k0 := 2) ⟨rfl, Nat.le_refl _, fun h => by omega, fun h => by omega, rfl⟩ ?_
  rintro k T' H' n' hf ⟨h7, hk, hn2, hn1, hH⟩
  have h0 : T' 0 = .str s := hf 0 rfl
  have h1 : T' 1 = .i64 a := hf 1 rfl
  have h4 : T' 4 = .ptr 0 0 := hf 4 rfl
  clear hf
  by_cases hk1 : 1 ≤ k
  · have hge : (1 : Int) ≤ k := by omega
    have ew := wrap_add (i := a) (j := k) (by omega)
    have es : IntKind.i64.wrap ((k : Int) - 1) = ((k - 1 : Nat) : Int) := by rw [wrap_in (by omega) (by omega)]; omega
    have hcut : (s.take (a + k)).drop a = (s.drop a).take k := by rw [List.drop_take]; congr 1; omega
    have hrest : (a + k ≤ s.length → ¬ (s.drop a).take k ∈ symA) → (k - 1 < 2 → ¬ (2 ≤ (s.drop a).length ∧ (s.drop a).take 2 ∈ symA)) ∧ (k - 1 < 1 → ¬ (s.drop a).take 1 ∈ symA) := by
      intro h
      have : k = 1 ∨ k = 2 := by omega
      rcases this with rfl | rfl
      · exact ⟨fun _ => hn2 (by omega), fun _ => h (by omega)⟩
      · exact ⟨fun _ hc => h (by omega) hc.2, fun h => by omega⟩
    by_cases hfit : a + k ≤ s.length
    · have hfi : ((a + k : Nat) : Int) ≤ s.length := by omega
      have hf2 : decide (((a + k : Nat) : Int) ≤ s.length) = true := decide_eq_true hfi
      simp only [go_sem, reduceIte, Nat.reduceEqDiff, Nat.reduceAdd, Nat.reduceLeDiff, Nat.reduceLT, h0, h1, h7, hge, ew, hf2]
      refine WC_p rfl rfl refSym_all ?_
      simp only [go_sem, reduceIte, Nat.reduceEqDiff, Nat.reduceAdd, Nat.reduceLeDiff, Nat.reduceLT, h0, h1, h7, hge, ew, hf2, Int.toNat_natCast, hcut]
      refine ⟨⟨by omega, by omega⟩, ?_⟩
      refine WC_p rfl rfl (refIn_ok symA _ (by rw [sym_len]; omega)) ?_
      cases hm : decide ((s.drop a).take k ∈ symA) with
      | true =>
        have hm' := of_decide_eq_true hm
        have hF : symF (s.drop a) = some ((s.drop a).take k) := by
          have : k = 1 ∨ k = 2 := by omega
          rcases this with rfl | rfl
          · exact symF_one hd0 hm' (hn2 (by omega))
          · exact symF_two (by omega) hm'
        have hl : ((s.drop a).take k).length = k := by rw [List.length_take]; omega
        rw [symRR_some hF, hl]
        simp only [go_sem, reduceIte, Nat.reduceEqDiff, Nat.reduceAdd, Nat.reduceLeDiff, Nat.reduceLT, h0, h1, h4, h7, hge, ew, hf2, hH, Int.toNat_natCast, hcut]
        exact ⟨by omega, by omega⟩
      | false =>
        obtain ⟨r1, r2⟩ := hrest (fun _ => of_decide_eq_false hm)
        simp only [go_sem, reduceIte, Nat.reduceEqDiff, Nat.reduceAdd, Nat.reduceLeDiff, Nat.reduceLT, h0, h1, h7, hge, ew, hf2, es, Int.toNat_natCast, hcut]
        exact ⟨k - 1, by omega, rfl, by omega, r1, r2, hH⟩
    · have hf2 : decide (((a + k : Nat) : Int) ≤ s.length) = false := decide_eq_false (by omega)
      obtain ⟨r1, r2⟩ := hrest (fun h => absurd h hfit)
      simp only [go_sem, reduceIte, Nat.reduceEqDiff, Nat.reduceAdd, Nat.reduceLeDiff, Nat.reduceLT, h0, h1, h7, hge, ew, hf2, es]
      exact ⟨k - 1, by omega, rfl, by omega, r1, r2, hH⟩
  · have hge : decide ((1 : Int) ≤ k) = false := decide_eq_false (by omega)
    rw [symRR_none (symF_no hd0 (hn1 (by omega)) (hn2 (by omega)))]
    simp only [go_sem, reduceIte, Nat.reduceEqDiff, Nat.reduceAdd, Nat.reduceLeDiff, Nat.reduceLT, h0, h1, h4, h7, hge, hH]
/-! ### strings -/
def qR (s : List UInt8) (a : Nat) : PV := match qv (s.drop (a + 1)) with
  | none => .tuple [.st noTok, .i64 a, .bool false]
  | some (t, m) => .tuple [.st [.int .i64 3, .int .i64 a, .str t], .i64 (a + 1 + m : Nat), .bool (decide (t.length ≤ 255))]
theorem qR_none {s : List UInt8} {a : Nat} (h : qv (s.drop (a + 1)) = none) : qR s a = .tuple [.st noTok, .i64 a, .bool false] := by unfold qR; rw [h]
theorem qR_some {s t : List UInt8} {a m : Nat} (h : qv (s.drop (a + 1)) = some (t, m)) : qR s a = .tuple [.st [.int .i64 3, .int .i64 a, .str t], .i64 (a + 1 + m : Nat), .bool (decide (t.length ≤ 255))] := by unfold qR; rw [h]
theorem refQuoted_ok (s : List UInt8) (a : Nat) (ha : a < s.length) (hs : s.length ≤ 1000000) : calL EE 36 [.str s, .i64 a] [] = some (.ret (qR s a), []) := by
  refine fn_ok f36 (by simp) ?_
  unfold c36
  have ew0 := wrap_suc (j := a) (by omega)
  simp only [go_sem, reduceIte, Nat.reduceEqDiff, Nat.reduceAdd, Nat.reduceLeDiff, Nat.reduceLT, ew0]
  refine WP_loop rfl (fun k T H n => ∃ (i : Nat) (t : List UInt8), i + k = s.length ∧ a + 1 ≤ i ∧ T 8 = .i64 i ∧ T 7 = .str t ∧ t.length ≤ i ∧ qv (s.drop (a + 1)) = (qv (s.drop i)).map (fun p => (t ++ p.1, (i - (a + 1)) + p.2)) ∧ H 0 = .box 30 (noTok.map .s)) (k0 := s.length - (a + 1)) ⟨a + 1, [], by omega, Nat.le_refl _, rfl, rfl, by simp, by simp, rfl⟩ ?_
  rintro k T' H' n' hf ⟨i, t, hik, hai, h8, h7, htl, hq, hH⟩
  have h0 : T' 0 = .str s := hf 0 rfl
  have h1 : T' 1 = .i64 a := hf 1 rfl
  have h4 : T' 4 = .ptr 0 0 := hf 4 rfl
  clear hf
  have ew := wrap_suc (j := i) (by omega)
  have ew2 := wrap_suc (j := i + 1) (by omega)
  have e39 : decide (((s.getD i 0).toNat : Int) = 39) = decide (s.getD i 0 = 39) := u8d (k := 39) (by omega)
  have e39b : decide (((s.getD (i + 1) 0).toNat : Int) = 39) = decide (s.getD (i + 1) 0 = 39) := u8d (k := 39) (by omega)
  by_cases hlt : i < s.length
  · have hlt' : (i : Int) < s.length := by omega
    have hc1 := cut1 hlt
    rw [drop_get hlt] at hq
    by_cases hb : s.getD i 0 = 39
    · rw [decide_eq_true hb] at e39
      rw [hb] at hq
      by_cases hlt2 : i + 1 < s.length ∧ s.getD (i + 1) 0 = 39
      · obtain ⟨l2, b2⟩ := hlt2
        rw [decide_eq_true b2] at e39b
        rw [drop_get l2, b2, qv_qq, Option.map_map] at hq
        have l2' : decide (((i + 1 : Nat) : Int) < s.length) = true := decide_eq_true (by omega)
        simp only [go_sem, reduceIte, Nat.reduceEqDiff, Nat.reduceAdd, Nat.reduceLeDiff, Nat.reduceLT, h0, h7, h8, hlt', decide_true, e39, ew, ew2, l2', e39b, Int.toNat_natCast]
        refine ⟨fun _ => by omega, by omega, k - 2, by omega, i + 2, t ++ [39], by omega, by omega, rfl, rfl, by simp; omega, ?_, hH⟩
        rw [hq]
        congr 1
        funext x
        simp
        omega
      · have hqe : qv (39 :: s.drop (i + 1)) = some ([], 1) := by
          by_cases l2 : i + 1 < s.length
          · rw [drop_get l2]; exact qv_two (fun h => hlt2 ⟨l2, h⟩)
          · rw [List.drop_of_length_le (by omega)]; rfl
        rw [hqe] at hq
        have hq' : qv (s.drop (a + 1)) = some (t, i - a) := by
          rw [hq]
          simp only [Option.map_some, List.append_nil]
          congr 2
          omega
        rw [qR_some hq', show a + 1 + (i - a) = i + 1 by omega]
        have h255 : decide ((t.length : Int) ≤ 255) = decide (t.length ≤ 255) := decide_eq_decide.2 (by omega)
        by_cases l2 : i + 1 < s.length
        · have l2' : decide (((i + 1 : Nat) : Int) < s.length) = true := decide_eq_true (by omega)
          rw [decide_eq_false (fun h => hlt2 ⟨l2, h⟩)] at e39b
          simp only [go_sem, reduceIte, Nat.reduceEqDiff, Nat.reduceAdd, Nat.reduceLeDiff, Nat.reduceLT, h0, h1, h4, h7, h8, hH, hlt', decide_true, e39, ew, l2', e39b, Int.toNat_natCast, h255]
          exact fun _ => by omega
        · have l2' : decide (((i + 1 : Nat) : Int) < s.length) = false := decide_eq_false (by omega)
          simp only [go_sem, reduceIte, Nat.reduceEqDiff, Nat.reduceAdd, Nat.reduceLeDiff, Nat.reduceLT, h0, h1, h4, h7, h8, hH, hlt', decide_true, e39, ew, l2', Int.toNat_natCast, h255]
          exact fun h => h.elim
    · rw [decide_eq_false hb] at e39
      rw [qv_ne hb, Option.map_map] at hq
      simp only [go_sem, reduceIte, Nat.reduceEqDiff, Nat.reduceAdd, Nat.reduceLeDiff, Nat.reduceLT, h0, h7, h8, hlt', decide_true, e39, ew, hc1, Int.toNat_natCast]
      refine ⟨⟨⟨by omega, by omega⟩, by omega⟩, ⟨by omega, by omega⟩, k - 1, by omega, i + 1, t ++ [s.getD i 0], by omega, by omega, rfl, rfl, by simp; omega, ?_, hH⟩
      rw [hq]
      congr 1
      funext x
      simp
      omega
  · have hlt' : ¬ (i : Int) < s.length := by omega
    rw [show s.drop i = [] from List.drop_of_length_le (by omega), qv_nil] at hq
    rw [qR_none hq]
    simp only [go_sem, reduceIte, Nat.reduceEqDiff, Nat.reduceAdd, Nat.reduceLeDiff, Nat.reduceLT, h0, h1, h4, h7, h8, hH, hlt', decide_false]
end Go.Vm
