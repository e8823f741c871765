/- Chapter 23: the law LexerSpace. -/
import Derived.Test.YtpnlogofcecjeaaGreatDoorLxR
set_option linter.unusedVariables false
set_option linter.unusedSimpArgs false
set_option maxRecDepth 100000
namespace Go.Vm
open Go

def Tok.key (t : Tok) : Int × List UInt8 := (t.k, t.t)
theorem ia_tok {s : Slc Tok} {H : Ob} {k : IntKind} {i : Int} : indexAM (.sl 3) H (.s (s.sv Tok.row)) (.s (.int k i)) = gd (0 ≤ i ∧ i < s.l.length) (.eptr (s.l.map Tok.row) i.toNat 0) := ia_sv (fun _ => rfl) (by omega)
theorem map_get {α β : Type} [Inhabited α] {f : α → β} {x y : List α} (h : x.map f = y.map f) {j : Nat} (hj : j < x.length) : f (x.getD j default) = f (y.getD j default) := by
  have hl : x.length = y.length := by have := congrArg List.length h; simpa using this
  have h1 : (x.map f)[j]? = (y.map f)[j]? := by rw [h]
  rw [List.getElem?_map, List.getElem?_map, List.getElem?_eq_getElem hj, List.getElem?_eq_getElem (by omega)] at h1
  rw [List.getD_eq_getElem?_getD, List.getD_eq_getElem?_getD, List.getElem?_eq_getElem hj, List.getElem?_eq_getElem (by omega)]
  injection h1
theorem alike_ok (x y : Slc Tok) (hx : x.l.length ≤ 1000000) (h : x.l.map Tok.key = y.l.map Tok.key) : calL EE 27 [.s (x.sv Tok.row), .s (y.sv Tok.row)] [] = some (.ret (.bool true), []) := by
  have hl : x.l.length = y.l.length := by have := congrArg List.length h; simpa using this
  refine fn_ok f27 (by simp) ?_
  unfold c27
  have e1 : decide ((x.l.length : Int) = (y.l.length : Int)) = true := decide_eq_true (by omega)
  simp only [go_sem, reduceIte, Nat.reduceEqDiff, Nat.reduceAdd, Nat.reduceLeDiff, Nat.reduceLT, e1, Bool.not_true]
  refine WP_scan rfl 5 x.l.length (fun _ => True) (fun _ _ _ _ => True) rfl trivial ?_ ?_
  · rintro j T' H' n' hlt hf hi _ _
    have h0 : T' 0 = .s (x.sv Tok.row) := hf 0 rfl
    have h1 : T' 1 = .s (y.sv Tok.row) := hf 1 rfl
    clear hf
    have hlt2 : j < y.l.length := by omega
    have hk := map_get h hlt
    unfold Tok.key at hk
    injection hk with hk1 hk2
    simp only [go_sem, reduceIte, Nat.reduceEqDiff, Nat.reduceAdd, Nat.reduceLeDiff, Nat.reduceLT, h0, h1, hi, Int.ofNat_lt, hlt, hlt2, decide_true, ia_tok, load_eptr, Tok.row, wrap_suc (show j < 9223372036854775807 by omega), Int.toNat_natCast, hk1, hk2, Bool.not_true, Bool.or_self]
  · rintro T' H' n' hf hi _ _
    have h0 : T' 0 = .s (x.sv Tok.row) := hf 0 rfl
    clear hf
    simp only [go_sem, reduceIte, Nat.reduceEqDiff, Nat.reduceAdd, Nat.reduceLeDiff, Nat.reduceLT, h0, hi, Int.lt_irrefl, decide_false]
/-! ### the plain law -/
theorem steps_split {l : List UInt8} {a : Nat} {ts : List Tok} {l2 : List UInt8} {a2 : Nat} (h : Steps l a ts l2 a2) : ∀ i, i ≤ ts.length → ∃ l1 a1, Steps l a (ts.take i) l1 a1 ∧ Steps l1 a1 (ts.drop i) l2 a2 := by
  induction h with
  | nil l a => intro i _; exact ⟨l, a, by rw [List.take_nil]; exact .nil _ _, by rw [List.drop_nil]; exact .nil _ _⟩
  | cons l a ts l2 a2 h0 hn h ih =>
    intro i hi
    cases i with
    | zero => exact ⟨l, a, .nil _ _, .cons _ _ _ _ _ h0 hn h⟩
    | succ i =>
      obtain ⟨l1, a1, g1, g2⟩ := ih i (by simpa using hi)
      exact ⟨l1, a1, .cons _ _ _ _ _ h0 hn g1, g2⟩
theorem steps_shift {l : List UInt8} {a : Nat} {ts : List Tok} {l2 : List UInt8} {a2 : Nat} (h : Steps l a ts l2 a2) : ∀ b, ∃ ts' b2, Steps l b ts' l2 b2 ∧ ts'.map Tok.key = ts.map Tok.key := by
  induction h with
  | nil l a => intro b; exact ⟨[], b, .nil _ _, rfl⟩
  | cons l a ts l2 a2 h0 hn h ih =>
    intro b
    obtain ⟨ts', b2, g1, g2⟩ := ih (b + (recV l).n + skN (l.drop (recV l).n))
    exact ⟨_, b2, .cons _ _ _ _ _ h0 hn g1, by rw [List.map_cons, List.map_cons, g2]; rfl⟩
def okBl (b : List UInt8) : Prop := b ≠ [] ∧ isBl (b.getD 0 0) = true ∧ md false b = some false ∧ b.length ≤ 10
theorem scan_len : ∀ (f : Nat) {l : List UInt8} {a : Nat} {ts : List Tok}, scanF f l a = .ok ts → ts.length ≤ f
  | 0, l, a, ts, h => by
    simp only [scanF] at h
    injection h with h
    subst h
    exact Nat.le_refl _
  | f + 1, l, a, ts, h => by
    by_cases h0 : l = []
    · subst h0
      rw [scanF_nil] at h
      injection h with h
      subst h
      exact Nat.zero_le _
    · by_cases hn : (recV l).n = 0
      · rw [scanF_bad h0 hn] at h; cases h
      · rw [scanF_step h0 hn] at h
        cases hr : scanF f (sk false (l.drop (recV l).n)) (a + (recV l).n + skN (l.drop (recV l).n)) with
        | error e => rw [hr] at h; cases h
        | ok r =>
          rw [hr] at h
          injection h with h
          subst h
          have := scan_len f hr
          simp only [List.length_append, List.length_cons, List.length_nil]
          omega
theorem steps_head {l1 : List UInt8} {a1 : Nat} {t : Tok} {ts : List Tok} {l2 : List UInt8} {a2 : Nat} (h : Steps l1 a1 (t :: ts) l2 a2) : l1 ≠ [] ∧ t.at_ = a1 := by
  cases h with
  | cons _ _ _ _ _ h0 hn h => exact ⟨h0, rfl⟩
theorem space_mid {s b : List UInt8} {l : List Tok} (hs : scanV s = .ok l) (hb : okBl b) {i : Nat} (hi : i < l.length) : ∃ a : Nat, (l.getD i default).at_ = a ∧ a ≤ s.length ∧ ∃ m, scanV (s.take a ++ b ++ s.drop a) = .ok m ∧ l.map Tok.key = m.map Tok.key := by
  obtain ⟨a2, h1⟩ := scan_steps s.length sk_len hs
  obtain ⟨l1, a1, g1, g2⟩ := steps_split h1 i (by omega)
  obtain ⟨u, k1, k2, k3, k4⟩ := top_loc g1
  have e0 : l.drop i = l.getD i default :: l.drop (i + 1) := by rw [List.drop_eq_getElem_cons hi, List.getD_eq_getElem?_getD, List.getElem?_eq_getElem hi]; rfl
  obtain ⟨hne, hat⟩ := steps_head (show Steps l1 a1 (l.getD i default :: l.drop (i + 1)) [] a2 by rw [← e0]; exact g2)
  refine ⟨a1, hat, by rw [k1, k2, List.length_append]; omega, ?_⟩
  have et : s.take a1 = u := by rw [k1, k2, List.take_left']; rfl
  have ed : s.drop a1 = l1 := by rw [k1, k2, List.drop_left']; rfl
  rw [et, ed, List.append_assoc]
  obtain ⟨b1, b2, b3, b4⟩ := hb
  have hc : Comp l1 (b ++ l1) := by
    refine ⟨.inr (.inr ?_), .inl hne⟩
    cases b with
    | nil => exact absurd rfl b1
    | cons x b => exact b2
  have hst := k4 _ hc
  have hsk : sk false (b ++ l1) = l1 := by rw [sk_md b3, k3]
  rw [hsk] at hst
  obtain ⟨ts', b2', q1, q2⟩ := steps_shift g2 (u.length + skN (b ++ l1))
  have e1 := steps_scan hst (u ++ (b ++ l1)).length l1.length sk_len (Nat.le_refl _)
  have e2 := steps_scan q1 l1.length 0 (Nat.le_refl _) (Nat.le_refl _)
  refine ⟨l.take i ++ ts', ?_, ?_⟩
  · unfold scanV
    rw [e1, e2, scanF_nil]
    simp [app]
  · rw [List.map_append, q2, ← List.map_append, List.take_append_drop]
theorem space_end {s b : List UInt8} {l : List Tok} (hs : scanV s = .ok l) (hb : md false b = some false) : scanV (s ++ 10 :: b) = .ok l := by
  obtain ⟨a2, h1⟩ := scan_steps s.length sk_len hs
  obtain ⟨u, k1, k2, k3, k4⟩ := top_loc h1
  rw [List.append_nil] at k1
  subst k1
  have hst := k4 (10 :: b) ⟨.inr (.inr rfl), .inr (.inr ⟨b, rfl⟩)⟩
  have hsk : sk false (10 :: b) = [] := by
    rw [sk_f, if_pos (show isBl 10 = true from rfl)]
    have := sk_md (v := []) hb
    rwa [List.append_nil, sk_nil] at this
  rw [hsk] at hst
  have e1 := steps_scan hst (s ++ 10 :: b).length 0 sk_len (Nat.le_refl _)
  unfold scanV
  rw [e1, scanF_nil]
  simp [app]
def blanks : List (List UInt8) := [[32], [9], [10], [13], [32, 45, 45, 32, 39, 120, 39, 32, 40, 10], [10, 45, 45, 10]]
theorem blanks_ok : ∀ j, j < 6 → okBl (blanks.getD j []) := by
  have h : (blanks.all fun b => decide (b ≠ []) && isBl (b.getD 0 0) && decide (md false b = some false) && decide (b.length ≤ 10)) = true := by decide
  intro j hj
  have := List.all_eq_true.1 h _ (getD_mem (l := blanks) [] hj)
  simp only [Bool.and_eq_true, decide_eq_true_eq] at this
  exact ⟨this.1.1.1, this.1.1.2, this.1.2, this.2⟩
theorem ia_bl {H : Ob} {j : Int} (h0 : 0 ≤ j) (h1 : j < 6) : indexAM (.sl 1) H (.s (.slice [[.str [32]], [.str [9]], [.str [10]], [.str [13]], [.str [32, 45, 45, 32, 39, 120, 39, 32, 40, 10]], [.str [10, 45, 45, 10]]] true)) (.s (.int .u8 j)) = some (.eptr (blanks.map txRow) j.toNat 0) := by
  have := ia_sv (f := txRow) (s := .mk blanks true) (size := 1) (H := H) (k := .u8) (i := j) (fun _ => rfl) (by omega)
  rw [gd_true ⟨h0, h1⟩] at this
  exact this
theorem load_bl {i : Nat} {H : Ob} (h : i < 6) : loadM false 1 H (.eptr (blanks.map txRow) i 0) = some (.str (blanks.getD i [])) := by
  rw [load_eptr, if_pos (show i < blanks.length from h)]
  rfl
end Go.Vm
