/- Plain laws of texts: replacing, quoting, numerals. No program in sight. -/
import Derived.Test.YtaepmmmcipolbaaGreatDoorSfB
import Derived.Lib.Replace
import Derived.Lib.ItoaNum
set_option linter.unusedVariables false
set_option linter.unusedSimpArgs false
namespace Go.Vm
open Go

/-! ### replacing -/
section
variable {old new : List UInt8}
theorem rep_eq (hn : old ≠ new) (s : List UInt8) : Lib.replaceAll s old new = Lib.replaceK old new (Lib.count s old) s := by
  unfold Lib.replaceAll Lib.replace Lib.replaceNum
  rw [if_neg (by simpa using hn), if_pos (.inl (by decide))]
theorem idx_nil (h0 : old ≠ []) : Lib.index [] old = -1 := by
  unfold Lib.index
  rw [if_neg (by simpa using h0)]
theorem rep_nil (h0 : old ≠ []) (hn : old ≠ new) : Lib.replaceAll [] old new = [] := by
  rw [rep_eq hn, Lib.count_miss (idx_nil h0)]
  rfl
theorem rep_hit (h0 : old ≠ []) (hn : old ≠ new) {b : UInt8} {l : List UInt8} (h : old.isPrefixOf (b :: l) = true) : Lib.replaceAll (b :: l) old new = new ++ Lib.replaceAll ((b :: l).drop old.length) old new := by
  have hi : Lib.index (b :: l) old = (0 : Nat) := by
    unfold Lib.index
    rw [if_pos h]
    rfl
  have hc := Lib.count_hit h0 hi
  rw [rep_eq hn, rep_eq hn, hc, Nat.add_comm 1, Lib.replaceK_hit _ _ _ _ 0 hi]
  simp
theorem rep_miss (h0 : old ≠ []) (hn : old ≠ new) {b : UInt8} {l : List UInt8} (h : old.isPrefixOf (b :: l) = false) : Lib.replaceAll (b :: l) old new = b :: Lib.replaceAll l old new := by
  have hi : Lib.index (b :: l) old = if Lib.index l old == -1 then -1 else Lib.index l old + 1 := by
    show (if old.isPrefixOf (b :: l) then (0 : Int) else if Lib.index l old == -1 then -1 else Lib.index l old + 1) = _
    rw [if_neg (by simp [h])]
  rw [rep_eq hn, rep_eq hn]
  by_cases hm : Lib.index l old = -1
  · rw [Lib.count_miss hm, Lib.count_miss (by rw [hi, hm]; rfl)]
    rfl
  · have hge := Lib.index_ge l old
    obtain ⟨i, hi2⟩ : ∃ i : Nat, Lib.index l old = i := ⟨(Lib.index l old).toNat, by omega⟩
    have hi3 : Lib.index (b :: l) old = ((i + 1 : Nat) : Int) := by
      rw [hi, hi2, if_neg (by rw [beq_iff_eq]; omega)]
      rfl
    have e1 := Lib.count_hit h0 hi2
    have e2 := Lib.count_hit h0 hi3
    have e3 : (b :: l).drop (i + 1 + old.length) = l.drop (i + old.length) := by
      rw [show i + 1 + old.length = (i + old.length) + 1 by omega]
      rfl
    rw [e3] at e2
    rw [e1, e2, Nat.add_comm 1, Lib.replaceK_hit _ _ _ _ _ hi2, Lib.replaceK_hit _ _ _ _ _ hi3, e3]
    simp
end
/-! ### quotes -/
/-- Each quote doubled. -/
def q2 (l : List UInt8) : List UInt8 := l.flatMap fun b => if b = 39 then [39, 39] else [b]
theorem q2_nil : q2 [] = [] := rfl
theorem q2_cons {b : UInt8} {l : List UInt8} : q2 (b :: l) = (if b = 39 then [39, 39] else [b]) ++ q2 l := rfl
theorem q2_len : ∀ l : List UInt8, (q2 l).length ≤ 2 * l.length
  | [] => Nat.le_refl _
  | b :: l => by
    have := q2_len l
    rw [q2_cons, List.length_append, List.length_cons]
    split <;> simp <;> omega
theorem rep_q (l : List UInt8) : Lib.replaceAll l [39] [39, 39] = q2 l := by
  induction l with
  | nil => exact rep_nil (by simp) (by simp)
  | cons b l ih =>
    by_cases h : b = 39
    · rw [rep_hit (by simp) (by simp) (by simp [List.isPrefixOf, h]), q2_cons, if_pos h]
      simp [ih]
    · rw [rep_miss (by simp) (by simp) (by simp [List.isPrefixOf, Ne.symm h]), q2_cons, if_neg h, ih]
      rfl
/-- The text whose quotes were doubled; none, if a quote stands alone. -/
def pairs : List UInt8 → Option (List UInt8)
  | [] => some []
  | [b] => if b = 39 then none else some [b]
  | b :: c :: r => if b = 39 then (if c = 39 then (pairs r).map (39 :: ·) else none) else (pairs (c :: r)).map (b :: ·)
theorem pairs_nil : pairs [] = some [] := rfl
theorem pairs_one {b : UInt8} : pairs [b] = if b = 39 then none else some [b] := by rw [pairs]
theorem pairs_two {b c : UInt8} {r : List UInt8} : pairs (b :: c :: r) = if b = 39 then (if c = 39 then (pairs r).map (39 :: ·) else none) else (pairs (c :: r)).map (b :: ·) := by rw [pairs]
theorem pairs_ne {b : UInt8} {r : List UInt8} (h : b ≠ 39) : pairs (b :: r) = (pairs r).map (b :: ·) := by
  cases r with
  | nil => rw [pairs_one, if_neg h]; rfl
  | cons c r => rw [pairs_two, if_neg h]
theorem pairs_q {r : List UInt8} : pairs (39 :: 39 :: r) = (pairs r).map (39 :: ·) := by rw [pairs_two, if_pos rfl, if_pos rfl]
theorem pairs_q2 : ∀ l : List UInt8, pairs (q2 l) = some l
  | [] => rfl
  | b :: l => by
    rw [q2_cons]
    by_cases h : b = 39
    · rw [if_pos h, List.cons_append, List.cons_append, List.nil_append, pairs_q, pairs_q2 l, h]; rfl
    · rw [if_neg h, List.cons_append, List.nil_append, pairs_ne h, pairs_q2 l]; rfl
theorem pairs_some : ∀ (n : Nat) {s t : List UInt8}, s.length ≤ n → pairs s = some t → q2 t = s
  | n, [], t, _, h => by rw [pairs_nil] at h; injection h with h; subst h; rfl
  | 0, b :: s, t, hl, _ => by simp at hl
  | n + 1, b :: s, t, hl, h => by
    simp only [List.length_cons] at hl
    by_cases hb : b = 39
    · subst hb
      cases s with
      | nil => rw [pairs_one, if_pos rfl] at h; cases h
      | cons c r =>
        rw [pairs_two, if_pos rfl] at h
        split at h
        · rename_i hc
          subst hc
          obtain ⟨u, h1, rfl⟩ := Option.map_eq_some_iff.1 h
          simp only [List.length_cons] at hl
          rw [q2_cons, if_pos rfl, pairs_some n (by omega) h1]
          rfl
        · cases h
    · rw [pairs_ne hb] at h
      obtain ⟨u, h1, rfl⟩ := Option.map_eq_some_iff.1 h
      rw [q2_cons, if_neg hb, pairs_some n (by omega) h1]
      rfl
theorem pre_q {b : UInt8} {r : List UInt8} (h : b ≠ 39) : ([39, 39] : List UInt8).isPrefixOf (b :: r) = false := by
  simp [List.isPrefixOf, Ne.symm h]
theorem pairs_rep : ∀ (n : Nat) {s : List UInt8}, s.length ≤ n → (∀ t, pairs s = some t → Lib.replaceAll s [39, 39] [39] = t) ∧ (pairs s = none ↔ 39 ∈ Lib.replaceAll s [39, 39] [])
  | n, [], _ => by
    rw [rep_nil (by simp) (by simp), rep_nil (by simp) (by simp), pairs_nil]
    exact ⟨fun t h => by injection h, by simp⟩
  | 0, b :: s, hl => by simp at hl
  | n + 1, b :: s, hl => by
    simp only [List.length_cons] at hl
    by_cases hb : b = 39
    · subst hb
      cases s with
      | nil =>
        rw [rep_miss (by simp) (by simp) (by decide), rep_miss (by simp) (by simp) (by decide), pairs_one, if_pos rfl]
        exact ⟨fun t h => (by cases h), by simp⟩
      | cons c r =>
        by_cases hc : c = 39
        · subst hc
          simp only [List.length_cons] at hl
          obtain ⟨h1, h2⟩ := pairs_rep n (s := r) (by omega)
          rw [rep_hit (by simp) (by simp) (by simp [List.isPrefixOf]), rep_hit (by simp) (by simp) (by simp [List.isPrefixOf]), pairs_q]
          simp only [List.length_cons, List.length_nil, List.drop_succ_cons, List.drop_zero, List.nil_append, List.cons_append]
          refine ⟨fun t h => ?_, ?_⟩
          · obtain ⟨u, h3, rfl⟩ := Option.map_eq_some_iff.1 h
            rw [h1 u h3]
          · rw [← h2]
            simp
        · have hp : ([39, 39] : List UInt8).isPrefixOf (39 :: c :: r) = false := by simp [List.isPrefixOf, Ne.symm hc]
          rw [rep_miss (by simp) (by simp) hp, rep_miss (by simp) (by simp) hp, pairs_two, if_pos rfl, if_neg hc]
          exact ⟨fun t h => (by cases h), by simp⟩
    · obtain ⟨h1, h2⟩ := pairs_rep n (s := s) (by omega)
      rw [rep_miss (by simp) (by simp) (pre_q hb), rep_miss (by simp) (by simp) (pre_q hb), pairs_ne hb]
      refine ⟨fun t h => ?_, ?_⟩
      · obtain ⟨u, h3, rfl⟩ := Option.map_eq_some_iff.1 h
        rw [h1 u h3]
      · rw [List.mem_cons, ← h2]
        simp [Ne.symm hb]
/-- The text of a quoted literal. -/
def unqV (s : List UInt8) : Option (List UInt8) := if 2 ≤ s.length ∧ s.getD 0 0 = 39 ∧ s.getD (s.length - 1) 0 = 39 then pairs ((s.take (s.length - 1)).drop 1) else none
theorem unq_mk (t : List UInt8) : unqV (39 :: (q2 t ++ [39])) = some t := by
  unfold unqV
  have hl : (39 :: (q2 t ++ [39])).length = (q2 t).length + 2 := by simp
  rw [hl, if_pos]
  · have : ((39 :: (q2 t ++ [39])).take ((q2 t).length + 2 - 1)).drop 1 = q2 t := by
      rw [show (q2 t).length + 2 - 1 = (q2 t).length + 1 by omega, List.take_succ_cons, List.drop_succ_cons, List.drop_zero, List.take_left']
      rfl
    rw [this, pairs_q2]
  · refine ⟨by omega, rfl, ?_⟩
    rw [show (q2 t).length + 2 - 1 = (q2 t).length + 1 by omega]
    simp [List.getD_cons_succ, List.getD_eq_getElem?_getD]
theorem unq_some {s t : List UInt8} (h : unqV s = some t) : s = 39 :: (q2 t ++ [39]) := by
  unfold unqV at h
  split at h
  · rename_i hc
    obtain ⟨h1, h2, h3⟩ := hc
    have e := pairs_some _ (Nat.le_refl _) h
    cases s with
    | nil => simp at h1
    | cons b s =>
      have h2 : b = 39 := h2
      subst h2
      simp only [List.length_cons] at h1 h3 e
      have hne : s ≠ [] := by intro e; subst e; simp at h1
      have hl : s.length - 1 + 1 = s.length := by omega
      rw [show s.length + 1 - 1 = (s.length - 1) + 1 by omega] at e h3
      rw [List.take_succ_cons, List.drop_succ_cons, List.drop_zero] at e
      rw [List.getD_cons_succ, List.getD_eq_getElem?_getD, List.getElem?_eq_getElem (by omega)] at h3
      rw [e]
      congr 1
      have h4 : s = s.dropLast ++ [s.getLast hne] := (List.dropLast_concat_getLast hne).symm
      have h5 : s.getLast hne = 39 := by
        rw [List.getLast_eq_getElem]
        simpa using h3
      rw [← h5, ← List.dropLast_eq_take]
      exact h4
  · cases h
/-! ### numerals -/
/-- What digits spell. -/
def dv (l : List UInt8) : Nat := l.foldl (fun a c => a * 10 + (c.toNat - 48)) 0
theorem dv_snoc (l : List UInt8) (c : UInt8) : dv (l ++ [c]) = dv l * 10 + (c.toNat - 48) := by
  unfold dv
  rw [List.foldl_append]
  rfl
theorem dig_of {d : Nat} (h : d < 10) : (UInt8.ofNat (48 + d)).toNat = 48 + d := by
  rw [UInt8.toNat_ofNat']
  omega
theorem dec_small {u : Nat} (h : u < 10) : Lib.decDigits u = [UInt8.ofNat (48 + u)] := by rw [Lib.decDigits, dif_pos h]
theorem dec_big {u : Nat} (h : ¬ u < 10) : Lib.decDigits u = Lib.decDigits (u / 10) ++ [UInt8.ofNat (48 + u % 10)] := by rw [Lib.decDigits, dif_neg h]
theorem dec_all (u : Nat) : (Lib.decDigits u).all isDig = true := by
  induction u using Nat.strongRecOn with
  | _ u ih =>
    by_cases h : u < 10
    · rw [dec_small h]
      simp [isDig, dig_of h]
      omega
    · rw [dec_big h, List.all_append, ih (u / 10) (by omega)]
      have := dig_of (d := u % 10) (by omega)
      simp [isDig, this]
      omega
theorem dec_val (u : Nat) : dv (Lib.decDigits u) = u := by
  induction u using Nat.strongRecOn with
  | _ u ih =>
    by_cases h : u < 10
    · rw [dec_small h]
      show 0 * 10 + ((UInt8.ofNat (48 + u)).toNat - 48) = u
      rw [dig_of h]
      omega
    · rw [dec_big h, dv_snoc, ih (u / 10) (by omega), dig_of (by omega)]
      omega
theorem dec_ne (u : Nat) : Lib.decDigits u ≠ [] := by
  by_cases h : u < 10
  · rw [dec_small h]; simp
  · rw [dec_big h]; simp
/-- No zero ahead. -/
def noZ (l : List UInt8) : Prop := l.getD 0 0 ≠ 48
theorem getD_app {l m : List UInt8} (h : l ≠ []) : (l ++ m).getD 0 0 = l.getD 0 0 := by
  cases l with
  | nil => exact absurd rfl h
  | cons a l => rfl
theorem dec_noZ {u : Nat} (h : 1 ≤ u) : noZ (Lib.decDigits u) := by
  induction u using Nat.strongRecOn with
  | _ u ih =>
    unfold noZ
    by_cases h1 : u < 10
    · rw [dec_small h1]
      intro e
      have e : UInt8.ofNat (48 + u) = 48 := e
      have := dig_of h1
      rw [e] at this
      have h2 : (48 : UInt8).toNat = 48 := rfl
      omega
    · rw [dec_big h1, getD_app (dec_ne _)]
      exact ih (u / 10) (by omega) (by omega)
theorem dv_pos {l : List UInt8} (hne : l ≠ []) (ha : l.all isDig = true) (hz : noZ l) : 1 ≤ dv l := by
  have key : ∀ (l : List UInt8) (a : Nat), 1 ≤ a → 1 ≤ l.foldl (fun a c => a * 10 + (c.toNat - 48)) a := by
    intro l
    induction l with
    | nil => intro a h; exact h
    | cons b l ih => intro a h; exact ih (a * 10 + (b.toNat - 48)) (by omega)
  cases l with
  | nil => exact absurd rfl hne
  | cons b l =>
    unfold dv
    rw [List.foldl_cons]
    refine key l _ ?_
    have h1 : b ≠ 48 := hz
    simp only [List.all_cons, isDig, Bool.and_eq_true, decide_eq_true_eq] at ha
    have : b.toNat ≠ 48 := fun e => h1 (UInt8.toNat_inj.1 e)
    omega
theorem dec_of {l : List UInt8} (hne : l ≠ []) (ha : l.all isDig = true) (hz : noZ l ∨ l.length = 1) : Lib.decDigits (dv l) = l := by
  have key : ∀ (n : Nat) (l : List UInt8), l.length = n → l ≠ [] → l.all isDig = true → (noZ l ∨ l.length = 1) → Lib.decDigits (dv l) = l := by
    intro n
    induction n with
    | zero => intro l h hne; exact absurd (List.eq_nil_of_length_eq_zero h) hne
    | succ n ih =>
      intro l hl hne ha hz
      have e := (List.dropLast_concat_getLast hne).symm
      generalize l.dropLast = m at e
      generalize l.getLast hne = c at e
      subst e
      rw [List.all_append, Bool.and_eq_true] at ha
      have hc : 48 ≤ c.toNat ∧ c.toNat ≤ 57 := by
        have := ha.2
        simpa [isDig] using this
      have hcc : UInt8.ofNat (48 + (c.toNat - 48)) = c := by
        rw [show 48 + (c.toNat - 48) = c.toNat by omega]
        exact UInt8.ofNat_toNat
      rw [dv_snoc]
      by_cases hm : m = []
      · subst hm
        have : dv [] = 0 := rfl
        rw [this, dec_small (by omega)]
        simpa using hcc
      · have hzm : noZ m := by
          rcases hz with h | h
          · unfold noZ at h ⊢
            rwa [getD_app hm] at h
          · exfalso
            have : 1 ≤ m.length := by
              cases m with
              | nil => exact absurd rfl hm
              | cons a m => simp
            rw [List.length_append] at h
            simp only [List.length_cons, List.length_nil] at h
            omega
        have hp := dv_pos hm ha.1 hzm
        rw [dec_big (by omega), show (dv m * 10 + (c.toNat - 48)) / 10 = dv m by omega, show (dv m * 10 + (c.toNat - 48)) % 10 = c.toNat - 48 by omega, hcc, ih m (by simpa using hl) hm ha.1 (.inl hzm)]
  exact key _ l rfl hne ha hz
/-! ### numbers out of texts -/
/-! ### trimming -/
def digs : List UInt8 := [48, 49, 50, 51, 52, 53, 54, 55, 56, 57]
set_option maxRecDepth 100000 in
theorem digs_has (b : UInt8) : digs.contains b = isDig b := by
  have key : ∀ n : Nat, n < 256 → digs.contains (UInt8.ofNat n) = isDig (UInt8.ofNat n) := by decide
  have := key b.toNat b.toNat_lt
  rwa [UInt8.ofNat_toNat] at this
theorem dw_nil {p : UInt8 → Bool} : ∀ {l : List UInt8}, l.dropWhile p = [] ↔ l.all p = true
  | [] => by simp
  | b :: l => by
    rw [List.dropWhile_cons, List.all_cons]
    cases h : p b with
    | true => simpa using dw_nil (l := l)
    | false => simp
theorem dw_head {p : UInt8 → Bool} {x : UInt8} {xs : List UInt8} : ∀ {l : List UInt8}, l.dropWhile p = x :: xs → p x = false
  | [], h => by simp at h
  | b :: l, h => by
    rw [List.dropWhile_cons] at h
    cases hb : p b with
    | true => rw [hb, if_pos rfl] at h; exact dw_head h
    | false =>
      rw [hb, if_neg (by simp)] at h
      injection h with h1 h2
      rw [← h1]; exact hb
end Go.Vm
