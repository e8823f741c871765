/- Chapter 23: letters' cases do not matter. -/
import Derived.Test.YtpnlogofcecjeaaGreatDoorLxK
set_option linter.unusedVariables false
set_option linter.unusedSimpArgs false
set_option maxRecDepth 100000
namespace Go.Vm
open Go

/-- The same byte, or the same letter in another case. -/
def Cb (b c : UInt8) : Prop := b = c ∨ (isLet b = true ∧ isLet c = true ∧ mapB 97 65 b = mapB 97 65 c ∧ mapB 65 97 b = mapB 65 97 c)
def Cf : List UInt8 → List UInt8 → Prop
  | [], [] => True
  | b :: r, c :: r' => Cb b c ∧ Cf r r'
  | _, _ => False
theorem Cf.len : ∀ {r r' : List UInt8}, Cf r r' → r'.length = r.length
  | [], [], _ => rfl
  | b :: r, c :: r', h => by rw [List.length_cons, List.length_cons, Cf.len h.2]
theorem Cf.at_ : ∀ {r r' : List UInt8}, Cf r r' → ∀ j, Cb (r.getD j 0) (r'.getD j 0)
  | [], [], _, j => .inl rfl
  | b :: r, c :: r', h, 0 => h.1
  | b :: r, c :: r', h, j + 1 => Cf.at_ (r := r) (r' := r') h.2 j
theorem Cf.drop : ∀ {r r' : List UInt8} (n : Nat), Cf r r' → Cf (r.drop n) (r'.drop n)
  | r, r', 0, h => h
  | [], [], n + 1, _ => trivial
  | b :: r, c :: r', n + 1, h => Cf.drop (r := r) (r' := r') n h.2
theorem Cf.of : ∀ {r r' : List UInt8}, r'.length = r.length → (∀ j, j < r.length → Cb (r.getD j 0) (r'.getD j 0)) → Cf r r'
  | [], [], _, _ => trivial
  | [], c :: r', h, _ => by simp at h
  | b :: r, [], h, _ => by simp at h
  | b :: r, c :: r', h, g => ⟨g 0 (by simp), Cf.of (by simpa using h) (fun j hj => g (j + 1) (by simp; omega))⟩
theorem Cb.wd {b c : UInt8} (h : Cb b c) : isWd c = isWd b := by
  rcases h with rfl | ⟨h1, h2, _⟩
  · rfl
  · rw [let_wd h1, let_wd h2]
theorem Cb.lt {b c : UInt8} (h : Cb b c) : isLet c = isLet b := by
  rcases h with rfl | ⟨h1, h2, _⟩
  · rfl
  · rw [h1, h2]
theorem Cf.spn : ∀ {r r' : List UInt8}, Cf r r' → spn isWd r' = spn isWd r
  | [], [], _ => rfl
  | b :: r, c :: r', h => by rw [spn_cons, spn_cons, h.1.wd, Cf.spn h.2]
theorem Cf.map : ∀ {r r' : List UInt8} (n : Nat), Cf r r' → (r'.take n).map (mapB 97 65) = (r.take n).map (mapB 97 65) ∧ (r'.take n).map (mapB 65 97) = (r.take n).map (mapB 65 97)
  | r, r', 0, h => ⟨rfl, rfl⟩
  | [], [], n + 1, _ => ⟨rfl, rfl⟩
  | b :: r, c :: r', n + 1, h => by
    obtain ⟨g1, g2⟩ := Cf.map (r := r) (r' := r') n h.2
    rw [List.take_succ_cons, List.take_succ_cons, List.map_cons, List.map_cons, List.map_cons, List.map_cons, g1, g2]
    rcases h.1 with rfl | ⟨_, _, e1, e2⟩
    · exact ⟨rfl, rfl⟩
    · rw [e1, e2]; exact ⟨rfl, rfl⟩
theorem word_case {r r' : List UInt8} (h : Cf r r') : wordV r' = wordV r := by
  have h0 : isLet (r'.getD 0 0) = isLet (r.getD 0 0) := (h.at_ 0).lt
  have hs := h.spn
  obtain ⟨g1, g2⟩ := h.map (Vm.spn isWd r)
  have hk : isKw (r'.take (Vm.spn isWd r)) = isKw (r.take (Vm.spn isWd r)) := by unfold isKw; rw [g1]
  unfold wordV
  rw [h0, hs, hk, g1, g2]
theorem stop_case {r r' : List UInt8} (h : Cf r r') (hs : sk false r = r) : sk false r' = r' := by
  match r, r', h with
  | [], [], _ => rfl
  | b :: r, c :: r', h =>
    have hlen : ∀ m, sk m r ≠ b :: r := fun m e => by
      have h1 := congrArg List.length e
      have h2 := @sk_len r m
      rw [List.length_cons] at h1
      omega
    rw [sk_f] at hs ⊢
    split at hs
    · exact absurd hs (hlen false)
    · rename_i hb
      split at hs
      · exact absurd hs (hlen true)
      · rename_i hd
        rw [if_neg, if_neg]
        · rintro ⟨rfl, h2⟩
          apply hd
          refine ⟨?_, ?_⟩
          · rcases h.1 with e | ⟨_, e, _⟩
            · exact e
            · cases e
          · cases r with
            | nil =>
              cases r' with
              | nil => cases h2
              | cons d r' => have := h.2; simp [Cf] at this
            | cons e r =>
              cases r' with
              | nil => cases h2
              | cons d r' =>
                have hd2 : d = 45 := by simpa using h2
                subst hd2
                rcases h.2.1 with e | ⟨_, e, _⟩
                · rw [e]; rfl
                · cases e
        · intro hc
          rcases h.1 with e | ⟨_, e, _⟩
          · rw [e] at hb; exact hb hc
          · have := (bl_wd hc).1
            rw [let_wd e] at this
            cases this
theorem take_same {r r' : List UInt8} {n : Nat} (hl : r'.length = r.length) (h : ∀ j, j < n → r'.getD j 0 = r.getD j 0) : r'.take n = r.take n := by
  apply List.ext_getElem?
  intro j
  by_cases hj : j < n
  · rw [List.getElem?_take_of_lt hj, List.getElem?_take_of_lt hj]
    have := h j hj
    by_cases hjl : j < r.length
    · rw [List.getD_eq_getElem?_getD, List.getD_eq_getElem?_getD, List.getElem?_eq_getElem hjl, List.getElem?_eq_getElem (by omega)] at this
      rw [List.getElem?_eq_getElem hjl, List.getElem?_eq_getElem (by omega)]
      exact congrArg some this
    · rw [List.getElem?_eq_none (by omega), List.getElem?_eq_none (by omega)]
  · rw [List.getElem?_eq_none (by rw [List.length_take]; omega), List.getElem?_eq_none (by rw [List.length_take]; omega)]
/-- White space that is as it was, ahead of a rest that is like it was. -/
theorem skip_case {r r' : List UInt8} (h : Cf r r') (he : ∀ j, j < skN r → r'.getD j 0 = r.getD j 0) : sk false r' = r'.drop (skN r) ∧ skN r' = skN r ∧ Cf (sk false r) (sk false r') := by
  obtain ⟨c, m', e1, e2, e3, e4⟩ := sk_split r false
  have hcl : skN r = c.length := by
    unfold skN
    have := congrArg List.length e1
    rw [List.length_append] at this
    omega
  have hd : r.drop (skN r) = sk false r := skN_drop r
  have hc : r.take (skN r) = c := by rw [hcl]; conv => lhs; rw [e1]; rw [List.take_left']; rfl
  have hc' : r' = c ++ r'.drop (skN r) := by
    have := take_same h.len he
    rw [hc] at this
    rw [← this]
    exact take_drop
  have hcf := h.drop (skN r)
  rw [hd] at hcf
  have hst := stop_case hcf e4
  have hm : sk m' (r'.drop (skN r)) = sk false (r'.drop (skN r)) := by
    by_cases hz : sk false r = []
    · rw [hz] at hcf
      have : r'.drop (skN r) = [] := List.length_eq_zero_iff.1 hcf.len
      rw [this, sk_nil, sk_nil]
    · rw [e3 hz]
  obtain ⟨k1, k2⟩ := skN_app e2 hm
  rw [← hc'] at k1 k2
  have k3 : skN (r'.drop (skN r)) = 0 := by
    have : skN (r'.drop (skN r)) = (r'.drop (skN r)).length - (sk false (r'.drop (skN r))).length := rfl
    rw [this, hst]; omega
  refine ⟨by rw [k1, hst], by rw [k2, k3, hcl]; rfl, ?_⟩
  rw [k1, hst]
  exact hcf
/-! ### tokens -/
def wordT (t : Tok) : Prop := t.k = 0 ∨ t.k = 1
def inW (ts : List Tok) (j : Nat) : Prop := ∃ t ∈ ts, wordT t ∧ t.at_ ≤ (j : Int) ∧ (j : Int) < t.at_ + t.t.length
theorem steps_ge {l : List UInt8} {a : Nat} {ts : List Tok} {l2 : List UInt8} {a2 : Nat} (h : Steps l a ts l2 a2) : ∀ t ∈ ts, (a : Int) ≤ t.at_ := by
  induction h with
  | nil l a => intro t ht; cases ht
  | cons l a ts l2 a2 h0 hn h ih =>
    intro t ht
    rcases List.mem_cons.1 ht with rfl | ht
    · exact Int.le_refl _
    · have := ih t ht
      omega
theorem recV_word {b : UInt8} {r : List UInt8} (h : isLet b = true) (hn : (recV (b :: r)).n ≠ 0) : ((recV (b :: r)).k = 0 ∨ (recV (b :: r)).k = 1) ∧ (recV (b :: r)).t.length = (recV (b :: r)).n := by
  rw [recV_let h] at hn ⊢
  have h0 : isLet ((b :: r).getD 0 0) = true := h
  have hle := @spn_le isWd (b :: r)
  cases hk : isKw ((b :: r).take (spn isWd (b :: r))) with
  | true => rw [wordV_b h0 hk]; exact ⟨.inr rfl, by simp only [List.length_map, List.length_take]; omega⟩
  | false =>
    by_cases h31 : 31 < spn isWd (b :: r)
    · rw [wordV_c h0 hk h31] at hn; exact absurd rfl hn
    · rw [wordV_d h0 hk h31]; exact ⟨.inl rfl, by simp only [List.length_map, List.length_take]; omega⟩
theorem recV_other {b : UInt8} {r : List UInt8} (h : isLet b = false) (hn : (recV (b :: r)).n ≠ 0) : ¬ ((recV (b :: r)).k = 0 ∨ (recV (b :: r)).k = 1) := by
  by_cases hd : isDig b = true
  · rw [recV_dig h hd] at hn ⊢
    unfold intV noRc at hn ⊢
    repeat' split at hn
    all_goals first | exact absurd rfl hn | skip
    rename_i h1 h2 h3
    rw [if_neg h1, if_neg h2, if_neg h3]
    show ¬ ((2 : Int) = 0 ∨ (2 : Int) = 1)
    decide
  · have hd : isDig b = false := by simpa using hd
    by_cases hq : b = 39
    · subst hq
      rw [recV_q] at hn ⊢
      have h0 : (39 :: r : List UInt8).getD 0 0 = 39 := rfl
      cases hqv : qv ((39 :: r : List UInt8).drop 1) with
      | none => rw [quotV_b h0 hqv] at hn; exact absurd rfl hn
      | some p =>
        have e := quotV_c h0 (show qv ((39 :: r : List UInt8).drop 1) = some (p.1, p.2) from hqv)
        by_cases h255 : 255 < p.1.length
        · rw [if_pos h255] at e; rw [e] at hn; exact absurd rfl hn
        · rw [if_neg h255] at e; rw [e]; show ¬ ((3 : Int) = 0 ∨ (3 : Int) = 1); decide
    · rw [recV_sym h hd hq] at hn ⊢
      unfold symR at hn ⊢
      cases hs : symF (b :: r) with
      | none => rw [hs] at hn; exact absurd rfl hn
      | some x => simp
theorem getD_drop {l : List UInt8} {n j : Nat} : (l.drop n).getD j 0 = l.getD (n + j) 0 := by
  rw [List.getD_eq_getElem?_getD, List.getD_eq_getElem?_getD, List.getElem?_drop]
theorem rec_case {r r' : List UInt8} (h : Cf r r') (h0 : r ≠ []) (hn : (recV r).n ≠ 0) (hw : ¬ ((recV r).k = 0 ∨ (recV r).k = 1) → ∀ j, j < (recV r).n → r'.getD j 0 = r.getD j 0) : recV r' = recV r := by
  match r, r', h with
  | [], [], _ => exact absurd rfl h0
  | b :: r, c :: r', h =>
    by_cases hb : isLet b = true
    · rw [recV_let hb, recV_let (by rw [h.1.lt]; exact hb)]
      exact word_case h
    · have hb : isLet b = false := by simpa using hb
      have hsame := hw (recV_other hb hn)
      have hle := recV_n h0
      have ht := take_same h.len hsame
      have hf : Fol (b :: r) (recV (b :: r)).n ((c :: r').drop (recV (b :: r)).n) := by
        by_cases hlt : (recV (b :: r)).n < (b :: r).length
        · have hne : (c :: r').drop (recV (b :: r)).n ≠ [] := fun e => by
            have := congrArg List.length e
            rw [List.length_drop, h.len, List.length_nil] at this
            omega
          rcases h.at_ (recV (b :: r)).n with e | ⟨e1, e2, _⟩
          · exact .inr (.inl ⟨hlt, hne, by rw [getD_drop]; exact e.symm⟩)
          · exact .inr (.inr (.inr ⟨hlt, e1, by rw [getD_drop]; exact e2⟩))
        · exact .inl (List.drop_of_length_le (by rw [h.len]; omega))
      have := rec_loc hn h0 hf
      rw [← ht, List.take_append_drop] at this
      exact this
theorem case_steps {l : List UInt8} {a : Nat} {ts : List Tok} {l2 : List UInt8} {a2 : Nat} (h : Steps l a ts l2 a2) : l2 = [] → ∀ l', Cf l l' → (∀ j, j < l.length → ¬ inW ts (a + j) → l'.getD j 0 = l.getD j 0) → Steps l' a ts [] a2 := by
  induction h with
  | nil l a =>
    rintro rfl l' hc _
    have : l' = [] := List.length_eq_zero_iff.1 hc.len
    rw [this]
    exact .nil _ _
  | cons l a ts l2 a2 h0 hn h ih =>
    intro hl2 l' hc hw
    have hle := recV_n h0
    have hge := steps_ge h
    have hrec : recV l' = recV l := by
      refine rec_case hc h0 hn (fun hk j hj => hw j (by omega) ?_)
      rintro ⟨t, ht, g1, g2, g3⟩
      rcases List.mem_cons.1 ht with rfl | ht
      · exact hk g1
      · have := hge t ht
        omega
    have h0' : l' ≠ [] := fun e => by
      have := hc.len
      rw [e] at this
      exact h0 (List.length_eq_zero_iff.1 this.symm)
    have hfirst : ∀ t : Tok, t = ⟨(recV l).k, a, (recV l).t⟩ → wordT t → t.t.length = (recV l).n := by
      rintro t rfl hwt
      cases l with
      | nil => exact absurd rfl h0
      | cons b r =>
        by_cases hb : isLet b = true
        · exact (recV_word hb hn).2
        · exact absurd hwt (recV_other (by simpa using hb) hn)
    have hc2 := hc.drop (recV l).n
    have hw2 : ∀ j, j < (l.drop (recV l).n).length → ¬ inW ts (a + (recV l).n + j) → (l'.drop (recV l).n).getD j 0 = (l.drop (recV l).n).getD j 0 := by
      intro j hj hno
      rw [List.length_drop] at hj
      rw [getD_drop, getD_drop]
      refine hw ((recV l).n + j) (by omega) ?_
      rintro ⟨t, ht, g1, g2, g3⟩
      rcases List.mem_cons.1 ht with e | ht
      · have := hfirst t e g1
        subst e
        simp only at g3 this
        omega
      · exact hno ⟨t, ht, g1, by omega, by omega⟩
    obtain ⟨s1, s2, s3⟩ := skip_case hc2 (fun j hj => hw2 j (by have := skN_le (l.drop (recV l).n); omega) (by
      rintro ⟨t, ht, g1, g2, g3⟩
      have := hge t ht
      omega))
    have := Steps.cons l' a ts [] a2 h0' (by rw [hrec]; exact hn) (by
      rw [hrec, s2]
      refine ih hl2 _ s3 (fun j hj hno => ?_)
      have hd := skN_drop (l.drop (recV l).n)
      rw [← hd, List.length_drop] at hj
      rw [s1, ← hd, getD_drop (l := l'.drop (recV l).n), getD_drop (l := l.drop (recV l).n)]
      exact hw2 (skN (l.drop (recV l).n) + j) (by omega) (by rw [← Nat.add_assoc]; exact hno))
    rwa [hrec] at this
theorem case_law {s w : List UInt8} {l : List Tok} (hs : scanV s = .ok l) (hc : Cf s w) (hw : ∀ j, j < s.length → ¬ inW l j → w.getD j 0 = s.getD j 0) : scanV w = .ok l := by
  obtain ⟨a2, h1⟩ := scan_steps s.length sk_len hs
  have hge := steps_ge h1
  have hle := skN_le s
  obtain ⟨s1, s2, s3⟩ := skip_case hc (fun j hj => hw j (by omega) (by
    rintro ⟨t, ht, g1, g2, g3⟩
    have := hge t ht
    omega))
  have h2 := case_steps h1 rfl _ s3 (fun j hj hno => by
    have hd := skN_drop s
    rw [← hd, List.length_drop] at hj
    rw [s1, ← hd, getD_drop (l := w), getD_drop (l := s)]
    exact hw (skN s + j) (by omega) hno)
  have := steps_scan h2 w.length 0 sk_len (Nat.le_refl _)
  unfold scanV
  rw [s2, this, scanF_nil]
  simp [app]
end Go.Vm
