/- Chapter 23, plain laws: what is found depends on little of what follows. -/
import Derived.Test.YtpnlogofcecjeaaGreatDoorLxG
set_option linter.unusedVariables false
set_option linter.unusedSimpArgs false
set_option maxRecDepth 100000
namespace Go.Vm
open Go

theorem spn_pos {p : UInt8 → Bool} {b : UInt8} {r : List UInt8} (h : p b = true) : 1 ≤ spn p (b :: r) := by rw [spn_cons, if_pos h]; omega
theorem spn_zero {p : UInt8 → Bool} {b : UInt8} {r : List UInt8} (h : p b = false) : spn p (b :: r) = 0 := by rw [spn_cons, if_neg (by rw [h]; simp)]
theorem let_wd {b : UInt8} (h : isLet b = true) : isWd b = true := by unfold isWd; rw [h]; rfl
theorem dig_wd {b : UInt8} (h : isDig b = true) : isWd b = true := by unfold isWd; rw [h]; simp
/-- The recognizers by a text's first byte. -/
theorem recV_let {b : UInt8} {r : List UInt8} (h : isLet b = true) : recV (b :: r) = wordV (b :: r) := by
  unfold recV
  rw [if_pos]
  have h0 : isLet ((b :: r).getD 0 0) = true := h
  have hp : 1 ≤ spn isWd (b :: r) := spn_pos (let_wd h)
  cases hk : isKw ((b :: r).take (spn isWd (b :: r))) with
  | true => rw [wordV_b h0 hk]; unfold hits; simp; omega
  | false =>
    by_cases hn : 31 < spn isWd (b :: r)
    · rw [wordV_c h0 hk hn]; rfl
    · rw [wordV_d h0 hk hn]; unfold hits; simp; omega
theorem word_no {b : UInt8} {r : List UInt8} (h : isLet b = false) : hits (wordV (b :: r)) = false := by
  rw [wordV_a (show isLet ((b :: r).getD 0 0) = false from h)]; rfl
theorem recV_dig {b : UInt8} {r : List UInt8} (hl : isLet b = false) (h : isDig b = true) : recV (b :: r) = intV (b :: r) := by
  unfold recV
  rw [if_neg (by rw [word_no hl]; simp), if_pos]
  have hp : 1 ≤ spn isDig (b :: r) := spn_pos h
  have hp' : ¬ spn isDig (b :: r) = 0 := by omega
  by_cases hd : 9223372036854775807 < dv (digT ((b :: r).take (spn isDig (b :: r))))
  · rw [intV_b hp' hd]; rfl
  · by_cases hw : spn isDig (b :: r) < (b :: r).length ∧ isWd ((b :: r).getD (spn isDig (b :: r)) 0) = true
    · rw [intV_c hp' hd hw]; unfold hits noRc; simp
    · rw [intV_d hp' hd hw]; unfold hits; simp; omega
theorem int_no {b : UInt8} {r : List UInt8} (h : isDig b = false) : hits (intV (b :: r)) = false := by
  rw [intV_a (spn_zero h)]; rfl
theorem q_let {b : UInt8} (h : b = 39) : isLet b = false ∧ isDig b = false := by subst h; exact ⟨rfl, rfl⟩
theorem recV_q {r : List UInt8} : recV (39 :: r) = quotV (39 :: r) := by
  unfold recV
  rw [if_neg (by rw [word_no rfl]; simp), if_neg (by rw [int_no rfl]; simp), if_pos]
  have h0 : (39 :: r : List UInt8).getD 0 0 = 39 := rfl
  cases hq : qv ((39 :: r : List UInt8).drop 1) with
  | none => rw [quotV_b h0 hq]; rfl
  | some p =>
    rw [quotV_c h0 (show qv ((39 :: r : List UInt8).drop 1) = some (p.1, p.2) from hq)]
    split
    · rfl
    · unfold hits; simp
theorem recV_sym {b : UInt8} {r : List UInt8} (hl : isLet b = false) (hd : isDig b = false) (hq : b ≠ 39) : recV (b :: r) = symR (b :: r) := by
  unfold recV
  rw [if_neg (by rw [word_no hl]; simp), if_neg (by rw [int_no hd]; simp), if_neg]
  rw [quotV_a (show (b :: r).getD 0 0 ≠ 39 from hq)]
  simp [hits, noRc]
/-- What may stand behind a token in place of what stood there. -/
def Fol (l : List UInt8) (n : Nat) (v : List UInt8) : Prop :=
  v = [] ∨ (n < l.length ∧ v ≠ [] ∧ v.getD 0 0 = l.getD n 0) ∨ isBl (v.getD 0 0) = true ∨ (n < l.length ∧ isLet (l.getD n 0) = true ∧ isLet (v.getD 0 0) = true)
theorem bl_wd {b : UInt8} (h : isBl b = true) : isWd b = false ∧ b ≠ 39 ∧ b ≠ 61 ∧ b ≠ 62 := by
  unfold isBl at h
  simp only [Bool.or_eq_true, decide_eq_true_eq] at h
  rcases h with ((rfl | rfl) | rfl) | rfl <;> decide
theorem let_no {b : UInt8} (h : isLet b = true) : b ≠ 39 ∧ b ≠ 61 ∧ b ≠ 62 := by
  refine ⟨?_, ?_, ?_⟩ <;> (rintro rfl; cases h)
theorem Fol.wd {l v : List UInt8} {n : Nat} (h : Fol l n v) (hn : n < l.length → isWd (l.getD n 0) = false) : v = [] ∨ isWd (v.getD 0 0) = false := by
  rcases h with h | ⟨h1, _, h2⟩ | h | ⟨h1, h2, h3⟩
  · exact .inl h
  · exact .inr (by rw [h2]; exact hn h1)
  · exact .inr (bl_wd h).1
  · have := hn h1
    rw [let_wd h2] at this
    cases this
theorem Fol.q {l v : List UInt8} {n : Nat} (h : Fol l n v) (hn : n < l.length → l.getD n 0 ≠ 39) : v = [] ∨ v.getD 0 0 ≠ 39 := by
  rcases h with h | ⟨h1, _, h2⟩ | h | ⟨h1, h2, h3⟩
  · exact .inl h
  · exact .inr (by rw [h2]; exact hn h1)
  · exact .inr (bl_wd h).2.1
  · exact .inr (let_no h3).1
theorem spn_cut {p : UInt8 → Bool} : ∀ {l v : List UInt8}, (v = [] ∨ p (v.getD 0 0) = false) → spn p (l.take (spn p l) ++ v) = spn p l
  | [], v, h => by
    show spn p v = 0
    cases v with
    | nil => rfl
    | cons b v => exact spn_zero (h.resolve_left (by simp))
  | b :: l, v, h => by
    rw [spn_cons]
    split
    · rename_i hb
      rw [List.take_succ_cons, List.cons_append, spn_cons, if_pos hb, spn_cut h]
    · rename_i hb
      show spn p v = 0
      cases v with
      | nil => rfl
      | cons b v => exact spn_zero (h.resolve_left (by simp))
theorem take_cut {l v : List UInt8} {n : Nat} (h : n ≤ l.length) : (l.take n ++ v).take n = l.take n := by
  rw [List.take_append_of_le_length (by rw [List.length_take]; omega), List.take_take, Nat.min_self]
theorem getD_cut {l v : List UInt8} {n j : Nat} (h : n ≤ l.length) (hj : j < n) : (l.take n ++ v).getD j 0 = l.getD j 0 := by
  rw [List.getD_eq_getElem?_getD, List.getD_eq_getElem?_getD, List.getElem?_append_left (by rw [List.length_take]; omega), List.getElem?_take_of_lt hj]
theorem getD_end {l v : List UInt8} {n : Nat} (h : n ≤ l.length) : (l.take n ++ v).getD n 0 = v.getD 0 0 := by
  rw [List.getD_eq_getElem?_getD, List.getD_eq_getElem?_getD, List.getElem?_append_right (by rw [List.length_take]; omega), List.length_take, show n - min n l.length = 0 by omega]
theorem word_loc {l v : List UInt8} (hn : (wordV l).n ≠ 0) (hf : Fol l (wordV l).n v) : wordV (l.take (wordV l).n ++ v) = wordV l := by
  have key : isLet (l.getD 0 0) = true → 1 ≤ spn isWd l → Fol l (spn isWd l) v → wordV (l.take (spn isWd l) ++ v) = wordV l := by
    intro h0 h1 hf
    have hle := @spn_le isWd l
    have hs := spn_cut (l := l) (hf.wd (fun h => spn_out h))
    have ht := take_cut (v := v) hle
    have hg := getD_cut (v := v) hle (j := 0) (by omega)
    unfold wordV
    rw [hs, ht, hg]
  cases h0 : isLet (l.getD 0 0) with
  | false => rw [wordV_a h0] at hn; exact absurd rfl hn
  | true =>
    cases hk : isKw (l.take (spn isWd l)) with
    | true =>
      have e := wordV_b h0 hk
      have en : (wordV l).n = spn isWd l := by rw [e]
      rw [en] at hn hf ⊢
      exact key h0 (by omega) hf
    | false =>
      by_cases h31 : 31 < spn isWd l
      · rw [wordV_c h0 hk h31] at hn; exact absurd rfl hn
      · have e := wordV_d h0 hk h31
        have en : (wordV l).n = spn isWd l := by rw [e]
        rw [en] at hn hf ⊢
        exact key h0 (by omega) hf
theorem int_loc {l v : List UInt8} (hn : (intV l).n ≠ 0) (hf : Fol l (intV l).n v) : intV (l.take (intV l).n ++ v) = intV l := by
  have hle := @spn_le isDig l
  by_cases h0 : spn isDig l = 0
  · rw [intV_a h0] at hn; exact absurd rfl hn
  · by_cases hd : 9223372036854775807 < dv (digT (l.take (spn isDig l)))
    · rw [intV_b h0 hd] at hn; exact absurd rfl hn
    · by_cases hw : spn isDig l < l.length ∧ isWd (l.getD (spn isDig l) 0) = true
      · rw [intV_c h0 hd hw] at hn; exact absurd rfl hn
      · have e := intV_d h0 hd hw
        have en : (intV l).n = spn isDig l := by rw [e]
        rw [en] at hn hf ⊢
        have hwd := hf.wd (fun h => by
          cases hx : isWd (l.getD (spn isDig l) 0) with
          | false => rfl
          | true => exact absurd ⟨h, hx⟩ hw)
        have hs := spn_cut (p := isDig) (l := l) (v := v) (hwd.imp id (fun h => by
          cases hx : isDig (v.getD 0 0) with
          | false => rfl
          | true => rw [dig_wd hx] at h; cases h))
        have ht := take_cut (v := v) hle
        rw [e, intV_d (by rw [hs]; exact h0) (by rw [hs, ht]; exact hd), hs, ht]
        rw [hs, getD_end hle]
        rintro ⟨h1, h2⟩
        rcases hwd with rfl | h3
        · rw [List.append_nil, List.length_take] at h1; omega
        · rw [h3] at h2; cases h2
theorem qv_loc : ∀ (n : Nat) {l t v : List UInt8} {m : Nat}, l.length ≤ n → qv l = some (t, m) → (m < l.length → l.getD m 0 ≠ 39) ∧ ((v = [] ∨ v.getD 0 0 ≠ 39) → qv (l.take m ++ v) = some (t, m))
  | _, [], t, v, m, hn, h => by cases h
  | 0, b :: l, t, v, m, hn, h => by simp at hn
  | n + 1, b :: l, t, v, m, hn, h => by
    by_cases hb : b = 39
    · subst hb
      have h39 : (v = [] ∨ v.getD 0 0 ≠ 39) → qv (39 :: v) = some ([], 1) := by
        intro hv
        cases v with
        | nil => rfl
        | cons c v => exact qv_two (hv.resolve_left (by simp))
      cases l with
      | nil =>
        rw [qv_end] at h
        injection h with h
        injection h with h1 h2
        subst h1; subst h2
        exact ⟨fun h => by simp at h, fun hv => h39 hv⟩
      | cons c r =>
        by_cases hc : c = 39
        · subst hc
          rw [qv_qq] at h
          cases hq : qv r with
          | none => rw [hq] at h; cases h
          | some p =>
            rw [hq] at h
            injection h with h
            injection h with h1 h2
            subst h1; subst h2
            obtain ⟨g1, g2⟩ := qv_loc n (v := v) (by simp at hn; omega) (show qv r = some (p.1, p.2) from hq)
            refine ⟨fun h => g1 (by simp at h; omega), fun hv => ?_⟩
            rw [List.take_succ_cons, List.take_succ_cons, List.cons_append, List.cons_append, qv_qq, g2 hv]
            rfl
        · rw [qv_two hc] at h
          injection h with h
          injection h with h1 h2
          subst h1; subst h2
          exact ⟨fun _ => hc, fun hv => h39 hv⟩
    · rw [qv_ne hb] at h
      cases hq : qv l with
      | none => rw [hq] at h; cases h
      | some p =>
        rw [hq] at h
        injection h with h
        injection h with h1 h2
        subst h1; subst h2
        obtain ⟨g1, g2⟩ := qv_loc n (v := v) (by simp at hn; omega) (show qv l = some (p.1, p.2) from hq)
        refine ⟨fun h => g1 (by simp at h; omega), fun hv => ?_⟩
        rw [List.take_succ_cons, List.cons_append, qv_ne hb, g2 hv]
        rfl
theorem quot_loc {r v : List UInt8} (hn : (quotV (39 :: r)).n ≠ 0) (hf : Fol (39 :: r) (quotV (39 :: r)).n v) : quotV ((39 :: r).take (quotV (39 :: r)).n ++ v) = quotV (39 :: r) := by
  have h0 : (39 :: r : List UInt8).getD 0 0 = 39 := rfl
  have ed : (39 :: r : List UInt8).drop 1 = r := rfl
  cases hq : qv r with
  | none => rw [quotV_b h0 (by rw [ed]; exact hq)] at hn; exact absurd rfl hn
  | some p =>
    have e := quotV_c h0 (show qv ((39 :: r : List UInt8).drop 1) = some (p.1, p.2) from hq)
    by_cases h255 : 255 < p.1.length
    · rw [if_pos h255] at e; rw [e] at hn; exact absurd rfl hn
    · rw [if_neg h255] at e
      have en : (quotV (39 :: r)).n = p.2 + 1 := by rw [e]
      rw [en] at hf ⊢
      obtain ⟨g1, g2⟩ := qv_loc _ (v := v) (Nat.le_refl _) (show qv r = some (p.1, p.2) from hq)
      have hv := hf.q (fun h => by
        have := g1 (by simp at h; omega)
        exact this)
      rw [e, List.take_succ_cons, List.cons_append, quotV_c (t := p.1) (m := p.2) rfl (by rw [List.drop_succ_cons, List.drop_zero]; exact g2 hv), if_neg h255]
/-! symbols -/
def symB (b : UInt8) (c : Option UInt8) : Option (List UInt8) :=
  if b = 124 ∧ c = some 124 then some [124, 124] else
  if b = 62 ∧ c = some 61 then some [62, 61] else if b = 62 then some [62] else if b = 61 then some [61] else
  if b = 60 ∧ c = some 62 then some [60, 62] else if b = 60 ∧ c = some 61 then some [60, 61] else if b = 60 then some [60] else
  if b = 59 then some [59] else if b = 46 then some [46] else if b = 45 then some [45] else if b = 44 then some [44] else if b = 43 then some [43] else
  if b = 42 then some [42] else if b = 41 then some [41] else if b = 40 then some [40] else none
theorem find_if {p : List UInt8} {L : List (List UInt8)} {s : List UInt8} : (p :: L).find? (fun q => q.isPrefixOf s) = if p.isPrefixOf s = true then some p else L.find? (fun q => q.isPrefixOf s) := by
  rw [List.find?_cons]
  cases p.isPrefixOf s <;> rfl
theorem pre1 {a b : UInt8} {r : List UInt8} : (([a] : List UInt8).isPrefixOf (b :: r) = true) = (b = a) := by
  simp only [List.isPrefixOf, Bool.and_true, beq_iff_eq]
  exact propext ⟨Eq.symm, Eq.symm⟩
theorem pre2 {a a' b : UInt8} {r : List UInt8} : (([a, a'] : List UInt8).isPrefixOf (b :: r) = true) = (b = a ∧ r.head? = some a') := by
  cases r with
  | nil => simp [List.isPrefixOf]
  | cons c r =>
    simp only [List.isPrefixOf, Bool.and_true, Bool.and_eq_true, beq_iff_eq, List.head?_cons, Option.some.injEq]
    exact propext ⟨fun h => ⟨h.1.symm, h.2.symm⟩, fun h => ⟨h.1.symm, h.2.symm⟩⟩
theorem symF_eq {b : UInt8} {r : List UInt8} : symF (b :: r) = symB b r.head? := by
  unfold symF symL symB
  simp only [find_if, pre1, pre2, List.find?_nil]
def sing : List UInt8 := [62, 61, 60, 59, 46, 45, 44, 43, 42, 41, 40]
theorem symB_len {b : UInt8} {c : Option UInt8} {x : List UInt8} (h : symB b c = some x) : (x = [b] ∧ b ∈ sing) ∨ ∃ d, c = some d ∧ x = [b, d] := by
  unfold symB at h
  by_cases k0 : b = 124 ∧ c = some 124
  · rw [if_pos k0] at h
    injection h with h
    exact .inr ⟨124, k0.2, by rw [← h, k0.1]⟩
  rw [if_neg k0] at h
  by_cases k1 : b = 62 ∧ c = some 61
  · rw [if_pos k1] at h
    injection h with h
    exact .inr ⟨61, k1.2, by rw [← h, k1.1]⟩
  rw [if_neg k1] at h
  by_cases k2 : b = 62
  · rw [if_pos k2] at h
    injection h with h
    exact .inl ⟨by rw [← h, k2], by rw [k2]; decide⟩
  rw [if_neg k2] at h
  by_cases k3 : b = 61
  · rw [if_pos k3] at h
    injection h with h
    exact .inl ⟨by rw [← h, k3], by rw [k3]; decide⟩
  rw [if_neg k3] at h
  by_cases k4 : b = 60 ∧ c = some 62
  · rw [if_pos k4] at h
    injection h with h
    exact .inr ⟨62, k4.2, by rw [← h, k4.1]⟩
  rw [if_neg k4] at h
  by_cases k5 : b = 60 ∧ c = some 61
  · rw [if_pos k5] at h
    injection h with h
    exact .inr ⟨61, k5.2, by rw [← h, k5.1]⟩
  rw [if_neg k5] at h
  by_cases k6 : b = 60
  · rw [if_pos k6] at h
    injection h with h
    exact .inl ⟨by rw [← h, k6], by rw [k6]; decide⟩
  rw [if_neg k6] at h
  by_cases k7 : b = 59
  · rw [if_pos k7] at h
    injection h with h
    exact .inl ⟨by rw [← h, k7], by rw [k7]; decide⟩
  rw [if_neg k7] at h
  by_cases k8 : b = 46
  · rw [if_pos k8] at h
    injection h with h
    exact .inl ⟨by rw [← h, k8], by rw [k8]; decide⟩
  rw [if_neg k8] at h
  by_cases k9 : b = 45
  · rw [if_pos k9] at h
    injection h with h
    exact .inl ⟨by rw [← h, k9], by rw [k9]; decide⟩
  rw [if_neg k9] at h
  by_cases k10 : b = 44
  · rw [if_pos k10] at h
    injection h with h
    exact .inl ⟨by rw [← h, k10], by rw [k10]; decide⟩
  rw [if_neg k10] at h
  by_cases k11 : b = 43
  · rw [if_pos k11] at h
    injection h with h
    exact .inl ⟨by rw [← h, k11], by rw [k11]; decide⟩
  rw [if_neg k11] at h
  by_cases k12 : b = 42
  · rw [if_pos k12] at h
    injection h with h
    exact .inl ⟨by rw [← h, k12], by rw [k12]; decide⟩
  rw [if_neg k12] at h
  by_cases k13 : b = 41
  · rw [if_pos k13] at h
    injection h with h
    exact .inl ⟨by rw [← h, k13], by rw [k13]; decide⟩
  rw [if_neg k13] at h
  by_cases k14 : b = 40
  · rw [if_pos k14] at h
    injection h with h
    exact .inl ⟨by rw [← h, k14], by rw [k14]; decide⟩
  rw [if_neg k14] at h
  cases h
theorem symB_one {b : UInt8} {c' : Option UInt8} (h : b ∈ sing) (h1 : c' ≠ some 61) (h2 : c' ≠ some 62) : symB b c' = some [b] := by
  unfold sing at h
  simp only [List.mem_cons, List.not_mem_nil, or_false] at h
  rcases h with rfl | rfl | rfl | rfl | rfl | rfl | rfl | rfl | rfl | rfl | rfl <;> simp [symB, h1, h2]
theorem sym_loc {b : UInt8} {r v : List UInt8} (hn : (symR (b :: r)).n ≠ 0) (hf : Fol (b :: r) (symR (b :: r)).n v) : symR ((b :: r).take (symR (b :: r)).n ++ v) = symR (b :: r) := by
  cases hs : symF (b :: r) with
  | none => unfold symR at hn; rw [hs] at hn; exact absurd rfl hn
  | some x =>
    have e : symR (b :: r) = ⟨4, x, x.length, -1⟩ := by unfold symR; rw [hs]
    have key : symF ((b :: r).take x.length ++ v) = some x := by
      have en : (symR (b :: r)).n = x.length := by rw [e]
      rw [en] at hf
      have hs' := hs
      rw [symF_eq] at hs'
      rcases symB_len hs' with ⟨rfl, hsg⟩ | ⟨d, hd, rfl⟩
      · show symF (b :: v) = _
        rw [symF_eq]
        rcases hf with rfl | ⟨h1, h4, h2⟩ | h | ⟨h1, h2, h3⟩
        · exact symB_one hsg (by simp) (by simp)
        · have : v.head? = r.head? := by
            cases r with
            | nil => simp at h1
            | cons c r =>
              cases v with
              | nil => exact absurd rfl h4
              | cons c' v => exact congrArg some (show c' = c from h2)
          rw [this]; exact hs'
        · cases v with
          | nil => exact symB_one hsg (by simp) (by simp)
          | cons c v => exact symB_one hsg (by have := (bl_wd (show isBl c = true from h)).2.2.1; simpa using this) (by have := (bl_wd (show isBl c = true from h)).2.2.2; simpa using this)
        · cases v with
          | nil => exact symB_one hsg (by simp) (by simp)
          | cons c v => exact symB_one hsg (by have := (let_no (show isLet c = true from h3)).2.1; simpa using this) (by have := (let_no (show isLet c = true from h3)).2.2; simpa using this)
      · cases r with
        | nil => cases hd
        | cons c r =>
          have hd' : c = d := by simpa using hd
          subst hd'
          show symF (b :: c :: v) = _
          rw [symF_eq]
          exact hs'
    rw [e]
    show symR ((b :: r).take x.length ++ v) = _
    unfold symR
    simp only [key]
theorem rec_loc {l v : List UInt8} (hn : (recV l).n ≠ 0) (h0 : l ≠ []) (hf : Fol l (recV l).n v) : recV (l.take (recV l).n ++ v) = recV l := by
  cases l with
  | nil => exact absurd rfl h0
  | cons b r =>
    have hle := recV_n h0
    obtain ⟨m, hm⟩ : ∃ m, (recV (b :: r)).n = m + 1 := ⟨(recV (b :: r)).n - 1, by omega⟩
    have hc : ∃ r', (b :: r).take (recV (b :: r)).n ++ v = b :: r' := ⟨r.take m ++ v, by rw [hm, List.take_succ_cons]; rfl⟩
    obtain ⟨r', hr'⟩ := hc
    by_cases hl : isLet b = true
    · rw [recV_let hl] at hn hf hr' ⊢
      have := word_loc hn hf
      rw [hr'] at this ⊢
      rw [recV_let hl, this]
    · have hl : isLet b = false := by simpa using hl
      by_cases hd : isDig b = true
      · rw [recV_dig hl hd] at hn hf hr' ⊢
        have := int_loc hn hf
        rw [hr'] at this ⊢
        rw [recV_dig hl hd, this]
      · have hd : isDig b = false := by simpa using hd
        by_cases hq : b = 39
        · subst hq
          rw [recV_q] at hn hf hr' ⊢
          have := quot_loc hn hf
          rw [hr'] at this ⊢
          rw [recV_q, this]
        · rw [recV_sym hl hd hq] at hn hf hr' ⊢
          have := sym_loc hn hf
          rw [hr'] at this ⊢
          rw [recV_sym hl hd hq, this]
end Go.Vm
