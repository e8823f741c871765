/- Chapter 23, plain laws: what is scanned depends on little of what follows. -/
import Derived.Test.YtpnlogofcecjeaaGreatDoorLxP
set_option linter.unusedVariables false
set_option linter.unusedSimpArgs false
set_option maxRecDepth 100000
namespace Go.Vm
open Go

/-! ### white space -/
/-- Whether a text is white space to its end, and whether its end lies in a comment. -/
def md : Bool → List UInt8 → Option Bool
  | m, [] => some m
  | false, b :: r => if isBl b = true then md false r else if b = 45 ∧ r.head? = some 45 then md true r else none
  | true, b :: r => if b = 10 then md false r else md true r
theorem md_f {b r} : md false (b :: r) = if isBl b = true then md false r else if b = 45 ∧ r.head? = some 45 then md true r else none := by rw [md]
theorem md_t {b r} : md true (b :: r) = if b = 10 then md false r else md true r := by rw [md]
theorem md_nil {m} : md m [] = some m := by cases m <;> rfl
theorem sk_md : ∀ {c v : List UInt8} {m m' : Bool}, md m c = some m' → sk m (c ++ v) = sk m' v
  | [], v, m, m', h => by
    rw [md_nil] at h
    injection h with h
    rw [h, List.nil_append]
  | b :: c, v, false, m', h => by
    rw [md_f] at h
    rw [List.cons_append, sk_f]
    split at h
    · rename_i hb; rw [if_pos hb]; exact sk_md h
    · rename_i hb
      rw [if_neg hb]
      split at h
      · rename_i h2
        rw [if_pos ⟨h2.1, by cases c with | nil => cases h2.2 | cons d c => exact h2.2⟩]
        exact sk_md h
      · cases h
  | b :: c, v, true, m', h => by
    rw [md_t] at h
    rw [List.cons_append, sk_t]
    split at h
    · rename_i hb; rw [if_pos hb]; exact sk_md h
    · rename_i hb; rw [if_neg hb]; exact sk_md h
theorem sk_split : ∀ (l : List UInt8) (m : Bool), ∃ c m', l = c ++ sk m l ∧ md m c = some m' ∧ (sk m l ≠ [] → m' = false) ∧ sk false (sk m l) = sk m l
  | [], m => ⟨[], m, by rw [sk_nil]; rfl, md_nil, fun h => absurd sk_nil h, by rw [sk_nil, sk_nil]⟩
  | b :: r, false => by
    by_cases hb : isBl b = true
    · obtain ⟨c, m', h1, h2, h3, h4⟩ := sk_split r false
      have e : sk false (b :: r) = sk false r := by rw [sk_f, if_pos hb]
      rw [e]
      exact ⟨b :: c, m', by rw [List.cons_append, ← h1], by rw [md_f, if_pos hb]; exact h2, h3, h4⟩
    · by_cases hd : b = 45 ∧ r.head? = some 45
      · obtain ⟨c, m', h1, h2, h3, h4⟩ := sk_split r true
        have e : sk false (b :: r) = sk true r := by rw [sk_f, if_neg hb, if_pos hd]
        rw [e]
        have hc : c.head? = some 45 := by
          cases r with
          | nil => cases hd.2
          | cons d r =>
            have hd2 : d = 45 := by have := hd.2; injection this
            subst hd2
            cases c with
            | nil =>
              exfalso
              have h1 : 45 :: r = sk true (45 :: r) := h1
              rw [sk_t, if_neg (by decide)] at h1
              have := congrArg List.length h1
              have := @sk_len r true
              simp at *
              omega
            | cons d c => have := congrArg List.head? h1; exact this.symm
        exact ⟨b :: c, m', by rw [List.cons_append, ← h1], by rw [md_f, if_neg hb, if_pos ⟨hd.1, hc⟩]; exact h2, h3, h4⟩
      · have e : sk false (b :: r) = b :: r := by rw [sk_f, if_neg hb, if_neg hd]
        rw [e]
        exact ⟨[], false, rfl, rfl, fun _ => rfl, e⟩
  | b :: r, true => by
    by_cases hb : b = 10
    · obtain ⟨c, m', h1, h2, h3, h4⟩ := sk_split r false
      have e : sk true (b :: r) = sk false r := by rw [sk_t, if_pos hb]
      rw [e]
      exact ⟨b :: c, m', by rw [List.cons_append, ← h1], by rw [md_t, if_pos hb]; exact h2, h3, h4⟩
    · obtain ⟨c, m', h1, h2, h3, h4⟩ := sk_split r true
      have e : sk true (b :: r) = sk true r := by rw [sk_t, if_neg hb]
      rw [e]
      exact ⟨b :: c, m', by rw [List.cons_append, ← h1], by rw [md_t, if_neg hb]; exact h2, h3, h4⟩
theorem skN_app {c v : List UInt8} {m' : Bool} (h : md false c = some m') (h2 : sk m' v = sk false v) : sk false (c ++ v) = sk false v ∧ skN (c ++ v) = c.length + skN v := by
  have e := sk_md (v := v) h
  rw [h2] at e
  refine ⟨e, ?_⟩
  unfold skN
  rw [e, List.length_append]
  have := @sk_len v false
  omega
/-- What may stand in place of a rest. -/
structure Comp (l v : List UInt8) : Prop where
  hd : v = [] ∨ (l ≠ [] ∧ v ≠ [] ∧ v.getD 0 0 = l.getD 0 0) ∨ isBl (v.getD 0 0) = true
  nl : l ≠ [] ∨ v = [] ∨ ∃ r, v = 10 :: r
theorem Comp.sk {l v : List UInt8} {m' : Bool} (h : Comp l v) (hm : l ≠ [] → m' = false) : sk m' v = Vm.sk false v := by
  rcases h.nl with h | rfl | ⟨r, rfl⟩
  · rw [hm h]
  · rw [sk_nil, sk_nil]
  · cases m' with
    | false => rfl
    | true => rw [sk_t, if_pos rfl, sk_f, if_pos (show isBl 10 = true from rfl)]
/-- Tokens that are found one behind the other. -/
inductive Steps : List UInt8 → Nat → List Tok → List UInt8 → Nat → Prop
  | nil (l a) : Steps l a [] l a
  | cons (l a ts l2 a2) (h0 : l ≠ []) (hn : (recV l).n ≠ 0) (h : Steps (sk false (l.drop (recV l).n)) (a + (recV l).n + skN (l.drop (recV l).n)) ts l2 a2) : Steps l a (⟨(recV l).k, a, (recV l).t⟩ :: ts) l2 a2
theorem stop_app {b : UInt8} {u l v : List UInt8} (hs : sk false (b :: u ++ l) = b :: u ++ l) (hv : Comp l v) : sk false (b :: u ++ v) = b :: u ++ v := by
  rw [List.cons_append, sk_f] at hs ⊢
  have hlen : ∀ m, sk m (u ++ l) ≠ b :: (u ++ l) := fun m e => by
    have h1 := congrArg List.length e
    have h2 := @sk_len (u ++ l) m
    rw [List.length_cons] at h1
    omega
  split at hs
  · exact absurd hs (hlen false)
  · rename_i hb
    rw [if_neg hb]
    split at hs
    · exact absurd hs (hlen true)
    · rename_i hd
      rw [if_neg]
      rintro ⟨rfl, h2⟩
      apply hd
      refine ⟨rfl, ?_⟩
      cases u with
      | cons d u => exact h2
      | nil =>
        have h2 : v.head? = some 45 := h2
        cases v with
        | nil => cases h2
        | cons d v =>
          injection h2 with h2
          subst h2
          rcases hv.hd with h | ⟨h1, _, h3⟩ | h
          · cases h
          · cases l with
            | nil => exact absurd rfl h1
            | cons e l => exact congrArg some (show (45 : UInt8) = e from h3).symm
          · cases h
theorem take_drop {l : List UInt8} {n : Nat} : l = l.take n ++ l.drop n := (List.take_append_drop n l).symm
/-- Another rest behind the same tokens. -/
theorem steps_loc {l : List UInt8} {a : Nat} {ts : List Tok} {l2 : List UInt8} {a2 : Nat} (h : Steps l a ts l2 a2) : sk false l = l → ts ≠ [] → ∃ u, u ≠ [] ∧ l = u ++ l2 ∧ a2 = a + u.length ∧ sk false l2 = l2 ∧ ∀ v, Comp l2 v → Steps (u ++ v) a ts (sk false v) (a + u.length + skN v) := by
  induction h with
  | nil l a => intro _ h; exact absurd rfl h
  | cons l a ts l2 a2 h0 hn h ih =>
    intro hsk _
    have hle := recV_n h0
    generalize hx : (recV l).n = n at hn hle h ih ⊢
    obtain ⟨c, m', e1, e2, e3, e4⟩ := sk_split (l.drop n) false
    have hcl : skN (l.drop n) = c.length := by
      unfold skN
      have := congrArg List.length e1
      rw [List.length_append] at this
      omega
    have hu : (l.take n).length = n := by rw [List.length_take]; omega
    have hrec : ∀ v, Fol l n v → recV (l.take n ++ v) = recV l := fun v hv => by
      have := rec_loc (l := l) (v := v) (by rw [hx]; exact hn) h0 (by rw [hx]; exact hv)
      rwa [hx] at this
    have hdrop : ∀ v : List UInt8, (l.take n ++ v).drop n = v := fun v => by
      rw [List.drop_append_of_le_length (by omega), List.drop_of_length_le (by omega), List.nil_append]
    have hne : ∀ v : List UInt8, l.take n ++ v ≠ [] := fun v e => by
      have := congrArg List.length e
      rw [List.length_append, hu, List.length_nil] at this
      omega
    have hstep : ∀ (v : List UInt8) (ts' : List Tok) (l2' : List UInt8) (a2' : Nat), Fol l n v → Steps (sk false v) (a + n + skN v) ts' l2' a2' → Steps (l.take n ++ v) a (⟨(recV l).k, a, (recV l).t⟩ :: ts') l2' a2' := by
      intro v ts' l2' a2' hv hst
      have e := hrec v hv
      have := Steps.cons (l.take n ++ v) a ts' l2' a2' (hne v) (by rw [e, hx]; exact hn) (by rw [e, hx, hdrop]; exact hst)
      rwa [e] at this
    cases ts with
    | nil =>
      cases h with
      | nil =>
        refine ⟨l.take n ++ c, ?_, ?_, ?_, e4, ?_⟩
        · intro e
          have := congrArg List.length e
          rw [List.length_append, hu, List.length_nil] at this
          omega
        · rw [List.append_assoc, ← e1]; exact take_drop
        · rw [List.length_append, hu, hcl]; omega
        · intro v hv
          obtain ⟨k1, k2⟩ := skN_app (v := v) e2 (hv.sk e3)
          rw [List.append_assoc, List.length_append, hu]
          refine hstep (c ++ v) [] _ _ ?_ ?_
          · cases c with
            | nil =>
              rw [List.nil_append]
              rcases hv.hd with h | ⟨h1, h2, h3⟩ | h
              · exact .inl h
              · refine .inr (.inl ⟨?_, h2, ?_⟩)
                · apply Classical.byContradiction
                  intro hlt
                  rw [List.drop_of_length_le (by omega), sk_nil] at h1
                  exact h1 rfl
                · rw [h3]
                  have e1 : l.drop n = sk false (l.drop n) := e1
                  rw [← e1, List.getD_eq_getElem?_getD, List.getD_eq_getElem?_getD, List.getElem?_drop]
                  rfl
              · exact .inr (.inr (.inl h))
            | cons d c =>
              refine .inr (.inl ⟨?_, by simp, ?_⟩)
              · apply Classical.byContradiction
                intro hlt
                rw [List.drop_of_length_le (by omega), sk_nil] at e1
                cases e1
              · have : l.getD n 0 = (l.drop n).getD 0 0 := by rw [List.getD_eq_getElem?_getD, List.getD_eq_getElem?_getD, List.getElem?_drop]; rfl
                rw [this, e1]
                rfl
          · rw [k1, k2, show a + n + (c.length + skN v) = a + (n + c.length) + skN v by omega]
            exact .nil _ _
    | cons t ts =>
      obtain ⟨u, g0, g1, g2, g3, g4⟩ := ih e4 (by simp)
      refine ⟨l.take n ++ (c ++ u), ?_, ?_, ?_, g3, ?_⟩
      · intro e
        have := congrArg List.length e
        rw [List.length_append, hu, List.length_nil] at this
        omega
      · rw [List.append_assoc, List.append_assoc, ← g1, ← e1]; exact take_drop
      · rw [g2, List.length_append, List.length_append, hu, hcl]; omega
      · intro v hv
        obtain ⟨d, u', rfl⟩ : ∃ d u', u = d :: u' := by
          cases u with
          | nil => exact absurd rfl g0
          | cons d u => exact ⟨d, u, rfl⟩
        have hst : sk false (d :: u' ++ v) = d :: u' ++ v := stop_app (by rw [← g1]; exact e4) hv
        have hm : m' = false := e3 (by rw [g1]; simp)
        obtain ⟨k1, k2⟩ := skN_app (v := d :: u' ++ v) e2 (by rw [hm])
        have k3 : skN (d :: u' ++ v) = 0 := by unfold skN; rw [hst]; omega
        rw [List.append_assoc, List.append_assoc]
        refine hstep (c ++ (d :: u' ++ v)) _ _ _ ?_ ?_
        · refine .inr (.inl ⟨?_, by simp, ?_⟩)
          · apply Classical.byContradiction
            intro hlt
            rw [List.drop_of_length_le (by omega), sk_nil] at g1
            cases g1
          · have : l.getD n 0 = (l.drop n).getD 0 0 := by rw [List.getD_eq_getElem?_getD, List.getD_eq_getElem?_getD, List.getElem?_drop]; rfl
            rw [this, e1, g1]
            cases c <;> rfl
        · rw [k1, k2, k3, hst]
          have := g4 v hv
          rw [hcl] at this
          rw [show a + (l.take n ++ (c ++ d :: u')).length + skN v = a + n + c.length + (d :: u').length + skN v by simp [hu]; omega]
          exact this
/-- The same for a whole source. -/
theorem top_loc {s : List UInt8} {ts : List Tok} {l2 : List UInt8} {a2 : Nat} (h : Steps (sk false s) (skN s) ts l2 a2) : ∃ u, s = u ++ l2 ∧ a2 = u.length ∧ sk false l2 = l2 ∧ ∀ v, Comp l2 v → Steps (sk false (u ++ v)) (skN (u ++ v)) ts (sk false v) (u.length + skN v) := by
  obtain ⟨c, m', e1, e2, e3, e4⟩ := sk_split s false
  have hcl : skN s = c.length := by
    unfold skN
    have := congrArg List.length e1
    rw [List.length_append] at this
    omega
  cases ts with
  | nil =>
    cases h with
    | nil =>
      refine ⟨c, e1, hcl, e4, fun v hv => ?_⟩
      obtain ⟨k1, k2⟩ := skN_app (v := v) e2 (hv.sk e3)
      rw [k1, k2]
      exact .nil _ _
  | cons t ts =>
    obtain ⟨u, g0, g1, g2, g3, g4⟩ := steps_loc h e4 (by simp)
    refine ⟨c ++ u, by rw [List.append_assoc, ← g1]; exact e1, by rw [g2, hcl, List.length_append], g3, fun v hv => ?_⟩
    obtain ⟨d, u', rfl⟩ : ∃ d u', u = d :: u' := by
      cases u with
      | nil => exact absurd rfl g0
      | cons d u => exact ⟨d, u, rfl⟩
    have hst : sk false (d :: u' ++ v) = d :: u' ++ v := stop_app (by rw [← g1]; exact e4) hv
    have hm : m' = false := e3 (by rw [g1]; simp)
    obtain ⟨k1, k2⟩ := skN_app (v := d :: u' ++ v) e2 (by rw [hm])
    have k3 : skN (d :: u' ++ v) = 0 := by unfold skN; rw [hst]; omega
    rw [List.append_assoc, k1, k2, k3, hst]
    have := g4 v hv
    rw [hcl] at this
    rw [List.length_append]
    exact this
end Go.Vm
