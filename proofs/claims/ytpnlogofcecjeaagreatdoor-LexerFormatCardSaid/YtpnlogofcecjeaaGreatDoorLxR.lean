/- Chapter 23: the law LexerErrors. -/
import Derived.Test.YtpnlogofcecjeaaGreatDoorLxQ
set_option linter.unusedVariables false
set_option linter.unusedSimpArgs false
set_option maxRecDepth 100000
namespace Go.Vm
open Go

theorem run_true {f : FuncId} {args : List PV} (h : ∃ v H1 n1, runL EE f args (Ob.of []) 0 = some (.ret v, H1, n1) ∧ v = .bool true) : ∃ H' n', runL EE f args (Ob.of []) 0 = some (.ret (.bool true), H', n') := by
  obtain ⟨v, H1, n1, h1, rfl⟩ := h
  exact ⟨H1, n1, h1⟩
theorem scanF_step {f : Nat} {l : List UInt8} {a : Nat} (h0 : l ≠ []) (hn : (recV l).n ≠ 0) : scanF (f + 1) l a = app [⟨(recV l).k, a, (recV l).t⟩] (scanF f (sk false (l.drop (recV l).n)) (a + (recV l).n + skN (l.drop (recV l).n))) := by
  rw [scanF, if_neg h0, if_neg hn]
  cases scanF f (sk false (l.drop (recV l).n)) (a + (recV l).n + skN (l.drop (recV l).n)) <;> rfl
theorem scanF_bad {f : Nat} {l : List UInt8} {a : Nat} (h0 : l ≠ []) (hn : (recV l).n = 0) : scanF (f + 1) l a = .error (a + (recV l).bad.toNat) := by
  rw [scanF, if_neg h0, if_pos hn]
theorem scanF_nil {f a : Nat} : scanF f [] a = .ok [] := by cases f <;> simp [scanF]
theorem next_len {l : List UInt8} (h0 : l ≠ []) (hn : (recV l).n ≠ 0) : (sk false (l.drop (recV l).n)).length + 1 ≤ l.length := by
  have := @sk_len (l.drop (recV l).n) false
  rw [List.length_drop] at this
  have : 0 < l.length := List.length_pos_iff.2 h0
  omega
theorem scanF_fuel : ∀ (f f' : Nat) {l : List UInt8} {a : Nat}, l.length ≤ f → l.length ≤ f' → scanF f l a = scanF f' l a
  | 0, f', l, a, h, h' => by
    have : l = [] := List.length_eq_zero_iff.1 (by omega)
    subst this
    rw [scanF_nil, scanF_nil]
  | f + 1, 0, l, a, h, h' => by
    have : l = [] := List.length_eq_zero_iff.1 (by omega)
    subst this
    rw [scanF_nil, scanF_nil]
  | f + 1, f' + 1, l, a, h, h' => by
    by_cases h0 : l = []
    · subst h0; rw [scanF_nil, scanF_nil]
    · by_cases hn : (recV l).n = 0
      · rw [scanF_bad h0 hn, scanF_bad h0 hn]
      · have := next_len h0 hn
        rw [scanF_step h0 hn, scanF_step h0 hn, scanF_fuel f f' (by omega) (by omega)]
theorem app_app {x y : List Tok} {e : Except Nat (List Tok)} : app x (app y e) = app (x ++ y) e := by cases e <;> simp [app]
theorem app_nil {e : Except Nat (List Tok)} : app [] e = e := by cases e <;> rfl
theorem steps_scan {l : List UInt8} {a : Nat} {ts : List Tok} {l2 : List UInt8} {a2 : Nat} (h : Steps l a ts l2 a2) : ∀ f f', l.length ≤ f → l2.length ≤ f' → scanF f l a = app ts (scanF f' l2 a2) := by
  induction h with
  | nil l a => intro f f' h h'; rw [app_nil]; exact scanF_fuel f f' h h'
  | cons l a ts l2 a2 h0 hn h ih =>
    intro f f' hf hf'
    have := next_len h0 hn
    obtain ⟨f, rfl⟩ : ∃ g, f = g + 1 := ⟨f - 1, by omega⟩
    rw [scanF_step h0 hn, ih f f' (by omega) hf', app_app]
    rfl
theorem scan_steps : ∀ (f : Nat) {l : List UInt8} {a : Nat} {ts : List Tok}, l.length ≤ f → scanF f l a = .ok ts → ∃ a2, Steps l a ts [] a2
  | 0, l, a, ts, h, hs => by
    have : l = [] := List.length_eq_zero_iff.1 (by omega)
    subst this
    rw [scanF_nil] at hs
    injection hs with hs
    subst hs
    exact ⟨a, .nil _ _⟩
  | f + 1, l, a, ts, h, hs => by
    by_cases h0 : l = []
    · subst h0
      rw [scanF_nil] at hs
      injection hs with hs
      subst hs
      exact ⟨a, .nil _ _⟩
    · by_cases hn : (recV l).n = 0
      · rw [scanF_bad h0 hn] at hs; cases hs
      · have := next_len h0 hn
        rw [scanF_step h0 hn] at hs
        cases hr : scanF f (sk false (l.drop (recV l).n)) (a + (recV l).n + skN (l.drop (recV l).n)) with
        | error e => rw [hr] at hs; cases hs
        | ok r =>
          rw [hr] at hs
          injection hs with hs
          subst hs
          obtain ⟨a2, g⟩ := scan_steps f (by omega) hr
          exact ⟨a2, .cons _ _ _ _ _ h0 hn g⟩
theorem scan_fails : ∀ (f : Nat) {l : List UInt8} {a p : Nat}, l.length ≤ f → scanF f l a = .error p → ∃ ts l2 a2, Steps l a ts l2 a2 ∧ l2 ≠ [] ∧ (recV l2).n = 0 ∧ p = a2 + (recV l2).bad.toNat
  | 0, l, a, p, h, hs => by
    have : l = [] := List.length_eq_zero_iff.1 (by omega)
    subst this
    rw [scanF_nil] at hs
    cases hs
  | f + 1, l, a, p, h, hs => by
    by_cases h0 : l = []
    · subst h0
      rw [scanF_nil] at hs
      cases hs
    · by_cases hn : (recV l).n = 0
      · rw [scanF_bad h0 hn] at hs
        injection hs with hs
        exact ⟨[], l, a, .nil _ _, h0, hn, hs.symm⟩
      · have := next_len h0 hn
        rw [scanF_step h0 hn] at hs
        cases hr : scanF f (sk false (l.drop (recV l).n)) (a + (recV l).n + skN (l.drop (recV l).n)) with
        | ok e => rw [hr] at hs; cases hs
        | error e =>
          rw [hr] at hs
          injection hs with hs
          subst hs
          obtain ⟨ts, l2, a2, g1, g2, g3, g4⟩ := scan_fails f (by omega) hr
          exact ⟨_, l2, a2, .cons _ _ _ _ _ h0 hn g1, g2, g3, g4⟩
/-- A failing place: nothing of it, or its digits, can be scanned. -/
theorem bad_cases {l : List UInt8} (h0 : l ≠ []) (hn : (recV l).n = 0) : (recV l).bad ≤ 0 ∨ ∃ m, 0 < m ∧ m < l.length ∧ (recV l).bad = (m : Nat) ∧ isDig (l.getD 0 0) = true ∧ (recV (l.take m)).n = m := by
  cases l with
  | nil => exact absurd rfl h0
  | cons b r =>
    by_cases hl : isLet b = true
    · rw [recV_let hl]; exact .inl wordV_b1
    · have hl : isLet b = false := by simpa using hl
      by_cases hd : isDig b = true
      · rw [recV_dig hl hd] at hn ⊢
        have h1 : ¬ spn isDig (b :: r) = 0 := by have := spn_pos (r := r) hd; omega
        by_cases hr : 9223372036854775807 < dv (digT ((b :: r).take (spn isDig (b :: r))))
        · rw [intV_b h1 hr]; exact .inl (Int.le_refl 0)
        · by_cases hw : spn isDig (b :: r) < (b :: r).length ∧ isWd ((b :: r).getD (spn isDig (b :: r)) 0) = true
          · refine .inr ⟨spn isDig (b :: r), by omega, hw.1, by rw [intV_c h1 hr hw]; rfl, hd, ?_⟩
            have hle := @spn_le isDig (b :: r)
            have hs := spn_cut (p := isDig) (l := b :: r) (v := []) (.inl rfl)
            have ht := take_cut (l := b :: r) (v := []) hle
            rw [List.append_nil] at hs ht
            obtain ⟨m, hm⟩ : ∃ m, spn isDig (b :: r) = m + 1 := ⟨spn isDig (b :: r) - 1, by omega⟩
            have e : recV ((b :: r).take (spn isDig (b :: r))) = intV ((b :: r).take (spn isDig (b :: r))) := by
              rw [hm, List.take_succ_cons]; exact recV_dig hl hd
            rw [e, intV_d (by rw [hs]; exact h1) (by rw [hs, ht]; exact hr), hs]
            rw [hs]
            rintro ⟨h2, _⟩
            rw [List.length_take] at h2
            omega
          · rw [intV_d h1 hr hw] at hn; exact absurd hn h1
      · have hd : isDig b = false := by simpa using hd
        by_cases hq : b = 39
        · subst hq; rw [recV_q]; exact .inl quotV_b1
        · rw [recV_sym hl hd hq]; exact .inl symR_b1
theorem dig_stop {b : UInt8} {r : List UInt8} (h : isDig b = true) : sk false (b :: r) = b :: r := by
  rw [sk_f, if_neg, if_neg]
  · rintro ⟨rfl, _⟩; cases h
  · intro hb
    have := (bl_wd hb).1
    rw [dig_wd h] at this
    cases this
theorem err_law {s : List UInt8} {p : Nat} (h : scanV s = .error p) : p < s.length ∧ ∃ ts, scanV (s.take p) = .ok ts := by
  obtain ⟨ts, l2, a2, h1, h2, h3, h4⟩ := scan_fails s.length (by exact sk_len) h
  obtain ⟨u, g1, g2, g3, g4⟩ := top_loc h1
  have hl2 : 0 < l2.length := List.length_pos_iff.2 h2
  have hsl : s.length = u.length + l2.length := by rw [g1, List.length_append]
  rcases bad_cases h2 h3 with hb | ⟨m, hm1, hm2, hm3, hm4, hm5⟩
  · have hp : p = u.length := by rw [h4, g2]; omega
    refine ⟨by omega, ts, ?_⟩
    have e : s.take p = u ++ [] := by rw [g1, hp, List.take_left', List.append_nil]; rfl
    have := steps_scan (g4 [] ⟨.inl rfl, .inl h2⟩) (u ++ []).length 0 sk_len (by rw [sk_nil]; exact Nat.le_refl _)
    rw [e]
    unfold scanV
    rw [this, sk_nil, scanF_nil]
    simp [app]
  · have hp : p = u.length + m := by rw [h4, g2, hm3]; omega
    refine ⟨by omega, ?_⟩
    obtain ⟨b, r, rfl⟩ : ∃ b r, l2 = b :: r := by
      cases l2 with
      | nil => exact absurd rfl h2
      | cons b r => exact ⟨b, r, rfl⟩
    obtain ⟨k, rfl⟩ : ∃ k, m = k + 1 := ⟨m - 1, by omega⟩
    have e : s.take p = u ++ (b :: r).take (k + 1) := by rw [g1, hp, List.take_append, List.take_of_length_le (by omega), Nat.add_sub_cancel_left]
    rw [List.take_succ_cons] at hm5 e
    have hst := dig_stop (b := b) (r := r.take k) hm4
    have hsn : skN (b :: r.take k) = 0 := by unfold skN; rw [hst]; omega
    have hst2 := g4 (b :: r.take k) ⟨.inr (.inl ⟨by simp, by simp, rfl⟩), .inl h2⟩
    have := steps_scan hst2 (u ++ b :: r.take k).length (r.length + 1) sk_len (by rw [hst]; simp; omega)
    rw [e]
    unfold scanV
    rw [this, hst, scanF_step (by simp) (by rw [hm5]; simp)]
    have hlen : (b :: r.take k).length = k + 1 := by
      rw [List.length_cons, List.length_take]
      simp at hm2
      omega
    rw [hm5, List.drop_of_length_le (by omega), sk_nil, scanF_nil]
    exact ⟨_, rfl⟩
theorem ext2 {a b c : PV} : extractV 0 (.tuple [a, b, c]) = some a ∧ extractV 1 (.tuple [a, b, c]) = some b ∧ extractV 2 (.tuple [a, b, c]) = some c := ⟨rfl, rfl, rfl⟩
end Go.Vm
