/- Chapter 23: the recognizers. -/
import Derived.Test.YtpnlogofcecjeaaGreatDoorLxC
set_option linter.unusedVariables false
set_option linter.unusedSimpArgs false
set_option maxRecDepth 100000
namespace Go.Vm
open Go

/-- What a recognizer finds. -/
structure Rc where
  k : Int
  t : List UInt8
  n : Nat
  bad : Int
  deriving Inhabited
def Rc.row (r : Rc) : List SV := [.int .i64 r.k, .int .i64 0, .str r.t, .int .i64 r.n, .int .i64 r.bad]
def noRc (b : Int) : Rc := ⟨0, [], 0, b⟩
theorem spn_le' {p : UInt8 → Bool} {s : List UInt8} : spn p s ≤ s.length := spn_le
/-! ### words -/
def wordV (s : List UInt8) : Rc :=
  if isLet (s.getD 0 0) = false then noRc (-1) else
  if isKw (s.take (spn isWd s)) = true then ⟨1, (s.take (spn isWd s)).map (mapB 97 65), spn isWd s, -1⟩ else
  if 31 < spn isWd s then noRc 0 else ⟨0, (s.take (spn isWd s)).map (mapB 65 97), spn isWd s, -1⟩
theorem wordV_a {s : List UInt8} (h : isLet (s.getD 0 0) = false) : wordV s = noRc (-1) := by unfold wordV; rw [if_pos h]
theorem wordV_b {s : List UInt8} (h : isLet (s.getD 0 0) = true) (hk : isKw (s.take (spn isWd s)) = true) : wordV s = ⟨1, (s.take (spn isWd s)).map (mapB 97 65), spn isWd s, -1⟩ := by
  unfold wordV; rw [if_neg (by rw [h]; simp), if_pos hk]
theorem wordV_c {s : List UInt8} (h : isLet (s.getD 0 0) = true) (hk : isKw (s.take (spn isWd s)) = false) (hn : 31 < spn isWd s) : wordV s = noRc 0 := by
  unfold wordV; rw [if_neg (by rw [h]; simp), if_neg (by rw [hk]; simp), if_pos hn]
theorem wordV_d {s : List UInt8} (h : isLet (s.getD 0 0) = true) (hk : isKw (s.take (spn isWd s)) = false) (hn : ¬ 31 < spn isWd s) : wordV s = ⟨0, (s.take (spn isWd s)).map (mapB 65 97), spn isWd s, -1⟩ := by
  unfold wordV; rw [if_neg (by rw [h]; simp), if_neg (by rw [hk]; simp), if_neg hn]
theorem word_ok (s : List UInt8) (h0 : s ≠ []) (hs : s.length ≤ 1000000) : calL EE 29 [.str s] [] = some (.ret (.st (wordV s).row), []) := by
  refine fn_ok f29 (by simp) ?_
  unfold c29
  have hl : 0 < s.length := List.length_pos_iff.2 h0
  have hl' : (0 : Int) < s.length := by omega
  have hn := @spn_le isWd s
  have e0 : Int.toNat 0 = 0 := rfl
  simp only [go_sem, reduceIte, Nat.reduceEqDiff, Nat.reduceAdd, Nat.reduceLeDiff, Nat.reduceLT, hl', e0]
  refine ⟨Int.le_refl _, ?_⟩
  refine WC_p rfl rfl (letter_ok _) ?_
  cases hb : isLet (s.getD 0 0) with
  | false =>
    rw [wordV_a hb]
    simp only [go_sem, reduceIte, Nat.reduceEqDiff, Nat.reduceAdd, Nat.reduceLeDiff, Nat.reduceLT]
    rfl
  | true =>
    simp only [go_sem, reduceIte, Nat.reduceEqDiff, Nat.reduceAdd, Nat.reduceLeDiff, Nat.reduceLT]
    refine WC_p rfl rfl (span_ok inWord_ok s hs) ?_
    simp only [go_sem, reduceIte, Nat.reduceEqDiff, Nat.reduceAdd, Nat.reduceLeDiff, Nat.reduceLT, Int.toNat_natCast, List.drop_zero]
    refine ⟨by omega, ?_⟩
    refine WC_p rfl rfl (isKw_ok _ (by rw [List.length_take]; omega)) ?_
    cases hk : isKw (s.take (spn isWd s)) with
    | true =>
      rw [wordV_b hb hk]
      simp only [go_sem, reduceIte, Nat.reduceEqDiff, Nat.reduceAdd, Nat.reduceLeDiff, Nat.reduceLT, Int.toNat_natCast, List.drop_zero]
      refine ⟨by omega, ?_⟩
      refine WC_p rfl rfl (mapped_ok (f := 97) (t := 65) (by omega) (by omega) _ (by rw [List.length_take]; omega)) ?_
      simp only [go_sem, reduceIte, Nat.reduceEqDiff, Nat.reduceAdd, Nat.reduceLeDiff, Nat.reduceLT]
      rfl
    | false =>
      simp only [go_sem, reduceIte, Nat.reduceEqDiff, Nat.reduceAdd, Nat.reduceLeDiff, Nat.reduceLT, decide_eq_true_eq]
      by_cases h31 : 31 < spn isWd s
      · rw [if_pos (by omega), wordV_c hb hk h31]
        rfl
      · rw [if_neg (by omega), wordV_d hb hk h31]
        refine ⟨by omega, ?_⟩
        refine WC_p rfl rfl (mapped_ok (f := 65) (t := 97) (by omega) (by omega) _ (by rw [List.length_take]; omega)) ?_
        simp only [go_sem, reduceIte, Nat.reduceEqDiff, Nat.reduceAdd, Nat.reduceLeDiff, Nat.reduceLT]
        rfl
/-! ### integers -/
theorem trimB_ok (s : List UInt8) (b : UInt8) (hs : s.length ≤ 1000000) : calL EE 66 [.str s, u8 b] [] = some (.ret (.str (s.dropWhile fun c => decide (c = b))), []) := by
  refine fn_ok f66 (by simp) ?_
  unfold c66
  simp only [go_sem, reduceIte, Nat.reduceEqDiff, Nat.reduceAdd, Nat.reduceLeDiff, Nat.reduceLT]
  refine WP_loop rfl (fun k T H n => ∃ t : List UInt8, T 0 = .str t ∧ t.length = k ∧ t.dropWhile (fun c => decide (c = b)) = s.dropWhile (fun c => decide (c = b))) (k0 := s.length) ⟨s, rfl, rfl, rfl⟩ ?_
  rintro k T' H' n' hf ⟨t, h0, htl, hd⟩
  have h1 : T' 1 = u8 b := hf 1 rfl
  clear hf
  have e0 : Int.toNat 0 = 0 := rfl
  cases t with
  | nil =>
    have e' : decide ((0 : Int) < ((0 : Nat) : Int)) = false := rfl
    simp only [go_sem, reduceIte, Nat.reduceEqDiff, Nat.reduceAdd, Nat.reduceLeDiff, Nat.reduceLT, h0, h1, e', List.length_nil, Bool.false_and]
    exact ⟨fun h => h.elim, by rw [← hd]; rfl⟩
  | cons c t =>
    have e : decide ((0 : Int) < ((t.length + 1 : Nat) : Int)) = true := by rw [decide_eq_true_eq]; omega
    have ec : decide (((c.toNat : Nat) : Int) = (b.toNat : Int)) = decide (c = b) := by
      rw [decide_eq_decide, ← UInt8.toNat_inj]
      omega
    simp only [go_sem, reduceIte, Nat.reduceEqDiff, Nat.reduceAdd, Nat.reduceLeDiff, Nat.reduceLT, h0, h1, e, e0, ec, Bool.true_and, decide_eq_true_eq]
    refine ⟨fun _ => ⟨by omega, by omega⟩, ?_⟩
    by_cases hcb : c = b
    · rw [if_pos hcb]
      rw [List.dropWhile_cons, if_pos (by simpa using hcb)] at hd
      refine ⟨⟨by omega, by omega⟩, t.length, by rw [← htl, List.length_cons]; omega, t, ?_, rfl, hd⟩
      rw [List.take_length]
      rfl
    · rw [if_neg hcb]
      rw [List.dropWhile_cons, if_neg (by simpa using hcb)] at hd
      rw [← hd]
theorem trim_ok (s : List UInt8) (h0 : s ≠ []) (hs : s.length ≤ 1000000) : calL EE 51 [.str s, .str [48]] [] = some (.ret (.str (s.dropWhile fun c => decide (c = 48))), []) := by
  refine fn_ok f51 (by simp) ?_
  unfold c51
  have e1 : decide (((1 : Nat) : Int) = 1) = true := rfl
  have e2 : decide (((([48] : List UInt8).getD (Int.toNat 0) 0).toNat : Int) < 128) = true := rfl
  have e3 : (0 : Int) < ((1 : Nat) : Int) := by omega
  have e5 : ([48] : List UInt8) = [] ↔ False := by simp
  simp only [go_sem, reduceIte, Nat.reduceEqDiff, Nat.reduceAdd, Nat.reduceLeDiff, Nat.reduceLT, h0, e1, e2, e3, e5, decide_false, Bool.or_false, Bool.or_self, Int.le_refl, imp_true_iff, true_and, and_self]
  refine WC_p rfl rfl (trimB_ok s 48 hs) ?_
  simp only [go_sem, reduceIte, Nat.reduceEqDiff, Nat.reduceAdd, Nat.reduceLeDiff, Nat.reduceLT]
theorem or_ok (t : List UInt8) : calL EE 50 [.s (.slice [[.str t], [.str [48]]] true)] [] = some (.ret (.str (if t = [] then [48] else t)), []) := by
  refine fn_ok f50 (by simp) ?_
  unfold c50
  simp only [go_sem, reduceIte, Nat.reduceEqDiff, Nat.reduceAdd, Nat.reduceLeDiff, Nat.reduceLT]
  refine WP_scan rfl 8 2 (fun j => ([t, [48]].getD j []) = []) (fun _ _ _ _ => True) rfl trivial ?_ ?_
  · rintro j T' H' n' hlt hf hi _ hp
    have h0 : T' 0 = .s (.slice [[.str t], [.str [48]]] true) := hf 0 rfl
    have h3 : T' 3 = .str [] := hf 3 rfl
    have h6 : T' 6 = .s (.slice [[.str t], [.str [48]]] true) := hf 6 rfl
    have h7 : T' 7 = .i64 2 := hf 7 rfl
    clear hf
    have hj : (j : Int) < 2 := by omega
    have hia : indexAM (.sl 1) H' (.s (.slice [[.str t], [.str [48]]] true)) (.i64 j) = some (.eptr ([t, [48]].map txRow) j 0) := by
      have := ia_sv (f := txRow) (s := .mk [t, [48]] true) (size := 1) (H := H') (k := .i64) (i := j) (fun _ => rfl) (by omega)
      rw [gd_true ⟨by omega, by simpa [Slc.l] using hj⟩] at this
      exact this
    have hld : loadM false 1 H' (.eptr ([t, [48]].map txRow) j 0) = some (.str ([t, [48]].getD j [])) := by
      rw [load_eptr, if_pos (by simpa using hlt)]
      rfl
    simp only [go_sem, reduceIte, Nat.reduceEqDiff, Nat.reduceAdd, Nat.reduceLeDiff, Nat.reduceLT, h3, h6, h7, hi, hj, decide_true, wrap_suc (show j < 9223372036854775807 by omega), Int.toNat_natCast, hia, hld]
    by_cases hx : [t, [48]].getD j [] = []
    · simp only [go_sem, reduceIte, Nat.reduceEqDiff, Nat.reduceAdd, Nat.reduceLeDiff, Nat.reduceLT, hx, decide_true, Bool.not_true]
    · simp only [go_sem, reduceIte, Nat.reduceEqDiff, Nat.reduceAdd, Nat.reduceLeDiff, Nat.reduceLT, hx, decide_false, Bool.not_false]
      have : j = 0 ∨ j = 1 := by omega
      rcases this with rfl | rfl
      · have e : ([t, [48]] : List (List UInt8)).getD 0 [] = t := rfl
        rw [e] at hx ⊢
        rw [if_neg hx]
      · have e := hp 0 (by omega)
        have e : t = [] := e
        rw [if_pos e]
        rfl
  · rintro T' H' n' hf hi _ hp
    have h2 := hp 1 (by omega)
    cases h2
/-- An integer's text. -/
def digT (s : List UInt8) : List UInt8 := if (s.dropWhile fun c => decide (c = 48)) = [] then [48] else s.dropWhile fun c => decide (c = 48)
def intV (s : List UInt8) : Rc :=
  if spn isDig s = 0 then noRc (-1) else
  if 9223372036854775807 < dv (digT (s.take (spn isDig s))) then noRc 0 else
  if spn isDig s < s.length ∧ isWd (s.getD (spn isDig s) 0) = true then noRc (spn isDig s) else ⟨2, digT (s.take (spn isDig s)), spn isDig s, -1⟩
theorem digT_ne {s : List UInt8} : digT s ≠ [] := by
  unfold digT
  split
  · simp
  · assumption
theorem all_take {p : UInt8 → Bool} : ∀ {s : List UInt8}, (s.take (spn p s)).all p = true
  | [] => rfl
  | b :: s => by
    rw [spn_cons]
    split
    · rename_i h
      rw [List.take_succ_cons, List.all_cons, h, all_take]
      rfl
    · rfl
theorem digT_all {s : List UInt8} (h : s.all isDig = true) : (digT s).all isDig = true := by
  unfold digT
  split
  · rfl
  · rw [List.all_eq_true] at h ⊢
    exact fun x hx => h x ((List.dropWhile_sublist _).mem hx)
theorem digT_len {s : List UInt8} : (digT s).length ≤ s.length + 1 := by
  unfold digT
  split
  · simp
  · have := (List.dropWhile_sublist (p := fun c : UInt8 => decide (c = 48)) (l := s)).length_le
    omega
theorem parV_in {l : List UInt8} (h : l ≠ []) (ha : l.all isDig = true) (hb : ¬ 9223372036854775807 < dv l) : parV l = .tuple [.i64 (dv l), .s .nili] := by
  unfold parV
  rw [pi_pos h ha, if_neg hb]
theorem parV_out {l : List UInt8} (h : l ≠ []) (ha : l.all isDig = true) (hb : 9223372036854775807 < dv l) : parV l = .tuple [.i64 (Lib.intSat 64 l), errP] := by
  unfold parV
  rw [pi_pos h ha, if_pos hb]
theorem par_ext (l : List UInt8) (hl : l.length ≤ 1000001) {w : PV} (ho : own 0 (Ob.of []) (parV l) = some w) : calL EE 52 [.str l, .i64 10, .i64 64] [] = some (.ret w, []) := by
  refine ext_cal (g := parX) (v := parV l) rfl ?_ ho
  unfold parX
  simp only
  rw [if_pos ⟨trivial, trivial, by omega⟩]
theorem intV_a {s : List UInt8} (h : spn isDig s = 0) : intV s = noRc (-1) := by unfold intV; rw [if_pos h]
theorem intV_b {s : List UInt8} (h : ¬ spn isDig s = 0) (hd : 9223372036854775807 < dv (digT (s.take (spn isDig s)))) : intV s = noRc 0 := by unfold intV; rw [if_neg h, if_pos hd]
theorem intV_c {s : List UInt8} (h : ¬ spn isDig s = 0) (hd : ¬ 9223372036854775807 < dv (digT (s.take (spn isDig s)))) (hw : spn isDig s < s.length ∧ isWd (s.getD (spn isDig s) 0) = true) : intV s = noRc (spn isDig s) := by unfold intV; rw [if_neg h, if_neg hd, if_pos hw]
theorem intV_d {s : List UInt8} (h : ¬ spn isDig s = 0) (hd : ¬ 9223372036854775807 < dv (digT (s.take (spn isDig s)))) (hw : ¬ (spn isDig s < s.length ∧ isWd (s.getD (spn isDig s) 0) = true)) : intV s = ⟨2, digT (s.take (spn isDig s)), spn isDig s, -1⟩ := by unfold intV; rw [if_neg h, if_neg hd, if_neg hw]
theorem int_ok (s : List UInt8) (hs : s.length ≤ 1000000) : calL EE 30 [.str s] [] = some (.ret (.st (intV s).row), []) := by
  refine fn_ok f30 (by simp) ?_
  unfold c30
  have hn := @spn_le isDig s
  simp only [go_sem, reduceIte, Nat.reduceEqDiff, Nat.reduceAdd, Nat.reduceLeDiff, Nat.reduceLT]
  refine WC_p rfl rfl (span_ok digit_ok s hs) ?_
  simp only [go_sem, reduceIte, Nat.reduceEqDiff, Nat.reduceAdd, Nat.reduceLeDiff, Nat.reduceLT, decide_eq_true_eq]
  by_cases h0 : spn isDig s = 0
  · rw [if_pos (by omega), intV_a h0]
    rfl
  · rw [if_neg (by omega)]
    have hne : s.take (spn isDig s) ≠ [] := fun e => by
      have := congrArg List.length e
      rw [List.length_take, List.length_nil] at this
      omega
    have hall := @all_take isDig s
    have hlen : (s.take (spn isDig s)).length ≤ 1000000 := by rw [List.length_take]; omega
    refine ⟨by omega, ?_⟩
    refine WC_p rfl rfl (trim_ok _ hne hlen) ?_
    simp only [go_sem, reduceIte, Nat.reduceEqDiff, Nat.reduceAdd, Nat.reduceLeDiff, Nat.reduceLT, rowsN, List.reduceReplicate]
    refine WC_p rfl rfl (or_ok _) ?_
    simp only [go_sem, reduceIte, Nat.reduceEqDiff, Nat.reduceAdd, Nat.reduceLeDiff, Nat.reduceLT]
    have e : (if (s.take (spn isDig s)).dropWhile (fun c => decide (c = 48)) = [] then [48] else (s.take (spn isDig s)).dropWhile (fun c => decide (c = 48))) = digT (s.take (spn isDig s)) := rfl
    rw [e]
    have hT := digT_len (s := s.take (spn isDig s))
    by_cases hd : 9223372036854775807 < dv (digT (s.take (spn isDig s)))
    · refine WC_p rfl rfl (par_ext _ (by omega) (by rw [parV_out digT_ne (digT_all hall) hd]; rfl)) ?_
      rw [intV_b h0 hd]
      simp only [go_sem, reduceIte, Nat.reduceEqDiff, Nat.reduceAdd, Nat.reduceLeDiff, Nat.reduceLT, extractV, List.getElem?_cons_succ, List.getElem?_cons_zero, errP, nil_eql.2.1]
      rfl
    · refine WC_p rfl rfl (par_ext _ (by omega) (by rw [parV_in digT_ne (digT_all hall) hd]; rfl)) ?_
      simp only [go_sem, reduceIte, Nat.reduceEqDiff, Nat.reduceAdd, Nat.reduceLeDiff, Nat.reduceLT, extractV, List.getElem?_cons_succ, List.getElem?_cons_zero, (nil_eql (t := 0) (p := .undef)).2.2.2]
      by_cases hlt : spn isDig s < s.length
      · have hd1 : decide ((spn isDig s : Int) < (s.length : Int)) = true := decide_eq_true (by omega)
        rw [if_pos hd1]
        refine ⟨by omega, ?_⟩
        refine WC_p rfl rfl (inWord_ok _) ?_
        cases hw : isWd (s.getD (spn isDig s) 0) with
        | true =>
          rw [intV_c h0 hd ⟨hlt, hw⟩]
          simp only [go_sem, reduceIte, Nat.reduceEqDiff, Nat.reduceAdd, Nat.reduceLeDiff, Nat.reduceLT, hd1]
          rfl
        | false =>
          rw [intV_d h0 hd (fun h => by rw [hw] at h; cases h.2)]
          simp only [go_sem, reduceIte, Nat.reduceEqDiff, Nat.reduceAdd, Nat.reduceLeDiff, Nat.reduceLT, hd1]
          rfl
      · have hd1 : decide ((spn isDig s : Int) < (s.length : Int)) = false := decide_eq_false (by omega)
        rw [intV_d h0 hd (fun h => hlt h.1)]
        simp only [go_sem, reduceIte, Nat.reduceEqDiff, Nat.reduceAdd, Nat.reduceLeDiff, Nat.reduceLT, hd1]
        rfl
/-! ### strings -/
/-- A string's text and how many bytes it takes, behind its first quote. -/
def qv : List UInt8 → Option (List UInt8 × Nat)
  | [] => none
  | [b] => if b = 39 then some ([], 1) else none
  | b :: c :: r => if b = 39 then (if c = 39 then (qv r).map (fun p => (39 :: p.1, p.2 + 2)) else some ([], 1)) else (qv (c :: r)).map (fun p => (b :: p.1, p.2 + 1))
theorem qv_nil : qv [] = none := rfl
theorem qv_ne {b : UInt8} {r : List UInt8} (h : b ≠ 39) : qv (b :: r) = (qv r).map (fun p => (b :: p.1, p.2 + 1)) := by
  cases r with
  | nil => simp [qv, h]
  | cons c r => simp [qv, h]
theorem qv_end : qv [39] = some ([], 1) := rfl
theorem qv_two {c : UInt8} {r : List UInt8} (h : c ≠ 39) : qv (39 :: c :: r) = some ([], 1) := by simp [qv, h]
theorem qv_qq {r : List UInt8} : qv (39 :: 39 :: r) = (qv r).map (fun p => (39 :: p.1, p.2 + 2)) := by simp [qv]
theorem qv_spn : ∀ {l : List UInt8}, qv l = (qv (l.dropWhile isNq)).map (fun p => (l.takeWhile isNq ++ p.1, spn isNq l + p.2))
  | [] => rfl
  | b :: r => by
    rw [List.dropWhile_cons, List.takeWhile_cons, spn_cons]
    by_cases h : b = 39
    · subst h
      have e : isNq 39 = false := rfl
      simp [e]
    · have e : isNq b = true := by unfold isNq; simp [h]
      rw [if_pos e, if_pos e, if_pos e, qv_ne h, qv_spn (l := r), Option.map_map]
      congr 1
      funext x
      simp
      omega
theorem qv_take : ∀ (n : Nat) {l t : List UInt8} {m : Nat}, l.length ≤ n → qv l = some (t, m) → l.take m = q2 t ++ [39] ∧ 1 ≤ m ∧ m ≤ l.length
  | _, [], t, m, hn, h => by cases h
  | 0, b :: l, t, m, hn, h => by simp at hn
  | n + 1, b :: l, t, m, hn, h => by
    by_cases hb : b = 39
    · subst hb
      cases l with
      | nil =>
        rw [qv_end] at h
        injection h with h
        injection h with h1 h2
        subst h1; subst h2
        exact ⟨rfl, Nat.le_refl _, by simp⟩
      | cons c r =>
        by_cases hc : c = 39
        · subst hc
          rw [qv_qq] at h
          cases hq : qv r with
          | none => rw [hq] at h; cases h
          | some p =>
            rw [hq] at h
            injection h with h
            injection h with h1 h2
            subst h1; subst h2
            obtain ⟨g1, g2, g3⟩ := qv_take n (by simp at hn; omega) (show qv r = some (p.1, p.2) from hq)
            refine ⟨?_, by omega, by simp; omega⟩
            rw [List.take_succ_cons, List.take_succ_cons, g1, q2_cons, if_pos rfl]
            rfl
        · rw [qv_two hc] at h
          injection h with h
          injection h with h1 h2
          subst h1; subst h2
          exact ⟨rfl, Nat.le_refl _, by simp⟩
    · rw [qv_ne hb] at h
      cases hq : qv l with
      | none => rw [hq] at h; cases h
      | some p =>
        rw [hq] at h
        injection h with h
        injection h with h1 h2
        subst h1; subst h2
        obtain ⟨g1, g2, g3⟩ := qv_take n (by simp at hn; omega) (show qv l = some (p.1, p.2) from hq)
        refine ⟨?_, by omega, by simp; omega⟩
        rw [List.take_succ_cons, g1, q2_cons, if_neg hb]
        rfl
def quotV (s : List UInt8) : Rc :=
  if s.getD 0 0 ≠ 39 then noRc (-1) else match qv (s.drop 1) with
    | none => noRc 0
    | some (t, m) => if 255 < t.length then noRc 0 else ⟨3, t, m + 1, -1⟩
theorem rep_ok (s old new : List UInt8) (h1 : s.length ≤ 1000000) (h2 : 1 ≤ old.length) (h3 : new.length ≤ 2) : calL EE 40 [.str s, .str old, .str new] [] = some (.ret (.str (Lib.replaceAll s old new)), []) := by
  refine ext_cal (g := replX) (v := .str (Lib.replaceAll s old new)) rfl ?_ own_s
  unfold replX
  have hc : Lib.countB ⟨⟨s⟩⟩ ⟨⟨old⟩⟩ ≤ s.length + 1 := Lib.count_le s old
  have hm : Lib.countB ⟨⟨s⟩⟩ ⟨⟨old⟩⟩ * new.length ≤ (s.length + 1) * 2 := Nat.mul_le_mul hc h3
  simp only
  rw [if_pos ⟨by omega, h2, by omega⟩]
theorem quote_ok (s : List UInt8) (hs : s.length ≤ 1000000) : calL EE 16 [.str s] [] = some (.ret (.str (39 :: (q2 s ++ [39]))), []) := by
  refine fn_ok f16 (by simp) ?_
  unfold c16
  simp only [go_sem, reduceIte, Nat.reduceEqDiff, Nat.reduceAdd, Nat.reduceLeDiff, Nat.reduceLT]
  refine WC_p rfl rfl (rep_ok s [39] [39, 39] hs (by simp) (by simp)) ?_
  rw [rep_q]
  have := q2_len s
  simp only [go_sem, reduceIte, Nat.reduceEqDiff, Nat.reduceAdd, Nat.reduceLeDiff, Nat.reduceLT]
  refine ⟨⟨by omega, by simp only [List.length_append, List.length_cons, List.length_nil]; omega⟩, ?_⟩
  simp
def unqR (s : List UInt8) : PV := match unqV s with
  | some t => .tuple [.str t, .bool true]
  | none => .tuple [.str [], .bool false]
theorem unqR_none {s : List UInt8} (h : unqV s = none) : unqR s = .tuple [.str [], .bool false] := by unfold unqR; rw [h]
theorem unqR_some {s t : List UInt8} (h : unqV s = some t) : unqR s = .tuple [.str t, .bool true] := by unfold unqR; rw [h]
theorem rep_len (s : List UInt8) : ∀ n, s.length ≤ n → (Lib.replaceAll s [39, 39] [39]).length ≤ s.length := by
  intro n
  induction n generalizing s with
  | zero =>
    intro h
    have : s = [] := List.length_eq_zero_iff.1 (by omega)
    subst this
    rw [rep_nil (by simp) (by simp)]
    exact Nat.le_refl _
  | succ n ih =>
    intro h
    cases s with
    | nil => rw [rep_nil (by simp) (by simp)]; exact Nat.le_refl _
    | cons b r =>
      cases hp : ([39, 39] : List UInt8).isPrefixOf (b :: r) with
      | true =>
        rw [rep_hit (by simp) (by simp) hp]
        have hl : 2 ≤ (b :: r).length := by
          rw [pre_take, decide_eq_true_eq] at hp
          exact hp.1
        have := ih ((b :: r).drop 2) (by simp at h ⊢; omega)
        have e : ((b :: r).drop ([39, 39] : List UInt8).length) = (b :: r).drop 2 := rfl
        rw [e]
        simp only [List.length_append, List.length_drop, List.length_cons, List.length_nil] at this hl ⊢
        omega
      | false =>
        rw [rep_miss (by simp) (by simp) hp]
        have := ih r (by simp at h; omega)
        simp only [List.length_cons]
        omega
theorem unquote_ok (s : List UInt8) (hs : s.length ≤ 1000000) : calL EE 17 [.str s] [] = some (.ret (unqR s), []) := by
  refine fn_ok f17 (by simp) ?_
  unfold c17
  have e0 : (((s.getD (Int.toNat 0) 0).toNat : Int) = 39) ↔ s.getD 0 0 = 39 := u8i (k := 39) (by omega)
  have hw : 1 ≤ s.length → IntKind.i64.wrap ((s.length : Int) - 1) = ((s.length - 1 : Nat) : Int) := fun h1 => by
    rw [wrap_in (by omega) (by omega)]; omega
  simp only [go_sem, reduceIte, Nat.reduceEqDiff, Nat.reduceAdd, Nat.reduceLeDiff, Nat.reduceLT, Bool.or_eq_true, decide_eq_true_eq, Bool.not_eq_true', decide_eq_false_iff_not, e0]
  refine ⟨?_, ?_⟩
  · by_cases h2 : s.length < 2
    · exact .inl (by omega)
    · exact .inr ⟨by omega, by omega⟩
  by_cases hc : s.length < 2 ∨ s.getD 0 0 ≠ 39
  · have hu : unqV s = none := by
      unfold unqV
      rw [if_neg]
      rintro ⟨h1, h2, h3⟩
      rcases hc with hc | hc
      · omega
      · exact hc h2
    rw [if_pos (by rcases hc with hc | hc; exact .inl (by omega); exact .inr hc), unqR_none hu]
  · rw [not_or, Classical.not_not] at hc
    obtain ⟨h1, h2⟩ := hc
    rw [if_neg (by
      rintro (h | h)
      · omega
      · exact h h2), hw (by omega)]
    simp only [Int.toNat_natCast, show Int.toNat 1 = 1 from rfl]
    refine ⟨⟨by omega, by omega, by omega⟩, ?_⟩
    generalize hm : (s.take (s.length - 1)).drop 1 = m
    have hml : m.length ≤ 1000000 := by rw [← hm, List.length_drop, List.length_take]; omega
    refine WC_p rfl rfl (rep_ok m [39, 39] [39] hml (by simp) (by simp)) ?_
    simp only [go_sem, reduceIte, Nat.reduceEqDiff, Nat.reduceAdd, Nat.reduceLeDiff, Nat.reduceLT]
    have hrl := rep_len m _ (Nat.le_refl _)
    refine WC_p rfl rfl (quote_ok _ (by omega)) ?_
    simp only [go_sem, reduceIte, Nat.reduceEqDiff, Nat.reduceAdd, Nat.reduceLeDiff, Nat.reduceLT, Bool.not_eq_true', decide_eq_false_iff_not]
    by_cases hq : 39 :: (q2 (Lib.replaceAll m [39, 39] [39]) ++ [39]) = s
    · have hu : unqV s = some (Lib.replaceAll m [39, 39] [39]) := by
        have := unq_mk (Lib.replaceAll m [39, 39] [39])
        rwa [hq] at this
      rw [if_neg (fun h => h hq), unqR_some hu]
    · have hu : unqV s = none := by
        cases h : unqV s with
        | none => rfl
        | some t =>
          exfalso
          have e := unq_some h
          have em : m = q2 t := by
            rw [← hm, e]
            simp
          have er := (pairs_rep _ (Nat.le_refl (q2 t).length)).1 t (pairs_q2 t)
          rw [em, er] at hq
          exact hq e.symm
      rw [if_pos hq, unqR_none hu]
theorem quotV_a {s : List UInt8} (h : s.getD 0 0 ≠ 39) : quotV s = noRc (-1) := by unfold quotV; rw [if_pos h]
theorem quotV_b {s : List UInt8} (h : s.getD 0 0 = 39) (hq : qv (s.drop 1) = none) : quotV s = noRc 0 := by unfold quotV; rw [if_neg (fun e => e h), hq]
theorem quotV_c {s t : List UInt8} {m : Nat} (h : s.getD 0 0 = 39) (hq : qv (s.drop 1) = some (t, m)) : quotV s = if 255 < t.length then noRc 0 else ⟨3, t, m + 1, -1⟩ := by unfold quotV; rw [if_neg (fun e => e h), hq]
theorem quot_unq {s t : List UInt8} {m : Nat} (h0 : s ≠ []) (h : s.getD 0 0 = 39) (hq : qv (s.drop 1) = some (t, m)) : unqV (s.take (m + 1)) = some t ∧ m + 1 ≤ s.length ∧ s.take (m + 1) = 39 :: (q2 t ++ [39]) := by
  cases s with
  | nil => exact absurd rfl h0
  | cons b r =>
    have hb : b = 39 := h
    subst hb
    obtain ⟨g1, g2, g3⟩ := qv_take _ (Nat.le_refl _) hq
    have e : (39 :: r).take (m + 1) = 39 :: (q2 t ++ [39]) := by rw [List.take_succ_cons]; rw [List.drop_succ_cons, List.drop_zero] at g1; rw [g1]
    refine ⟨by rw [e]; exact unq_mk t, ?_, e⟩
    rw [List.drop_succ_cons, List.drop_zero] at g3
    simp; omega
theorem quoted_ok (s : List UInt8) (h0 : s ≠ []) (hs : s.length ≤ 1000000) : calL EE 31 [.str s] [] = some (.ret (.st (quotV s).row), []) := by
  refine fn_ok f31 (by simp) ?_
  unfold c31
  have hl : 0 < s.length := List.length_pos_iff.2 h0
  have hl' : (0 : Int) < s.length := by omega
  have e0 : (((s.getD (Int.toNat 0) 0).toNat : Int) = 39) ↔ s.getD 0 0 = 39 := u8i (k := 39) (by omega)
  simp only [go_sem, reduceIte, Nat.reduceEqDiff, Nat.reduceAdd, Nat.reduceLeDiff, Nat.reduceLT, hl', e0, Bool.not_eq_true', decide_eq_false_iff_not]
  refine ⟨Int.le_refl _, ?_⟩
  by_cases hb : s.getD 0 0 = 39
  · rw [if_neg (fun e => e hb)]
    refine WP_loop rfl (fun k T H n => ∃ (i : Nat) (t : List UInt8), i + k = s.length ∧ 1 ≤ i ∧ T 3 = .i64 i ∧ H 0 = .box 42 ((noRc 0).row.map .s) ∧ qv (s.drop 1) = (qv (s.drop i)).map fun p => (t ++ p.1, (i - 1) + p.2)) (k0 := s.length - 1) ⟨1, [], by omega, Nat.le_refl _, rfl, rfl, by simp⟩ ?_
    rintro k T' H' n' hf ⟨i, t, hik, h1, h3, hH, hq⟩
    have g0 : T' 0 = .str s := hf 0 rfl
    have g2 : T' 2 = .ptr 0 0 := hf 2 rfl
    clear hf
    have hl1 := @spn_le isNq (s.drop i)
    rw [List.length_drop] at hl1
    simp only [go_sem, reduceIte, Nat.reduceEqDiff, Nat.reduceAdd, Nat.reduceLeDiff, Nat.reduceLT, g0, g2, h3, Int.toNat_natCast, List.take_length]
    refine ⟨by omega, ?_⟩
    refine WC_p rfl rfl (span_ok quot_ok (s.drop i) (by rw [List.length_drop]; omega)) ?_
    rw [qv_spn (l := s.drop i), ← spn_drop, List.drop_drop] at hq
    generalize hi1 : i + spn isNq (s.drop i) = i1 at hq
    have ew := wrap_add (i := i) (j := spn isNq (s.drop i)) (by omega)
    rw [hi1] at ew
    simp only [go_sem, reduceIte, Nat.reduceEqDiff, Nat.reduceAdd, Nat.reduceLeDiff, Nat.reduceLT, g0, g2, h3, Int.toNat_natCast, List.take_length, ew, decide_eq_true_eq]
    by_cases he : i1 = s.length
    · rw [if_pos (by omega)]
      rw [he, List.drop_length, qv_nil] at hq
      rw [quotV_b hb hq]
      simp only [go_sem, reduceIte, Nat.reduceEqDiff, Nat.reduceAdd, Nat.reduceLeDiff, Nat.reduceLT, g2, hH]
      exact ⟨Nat.le_refl _, Nat.le_refl _, rfl⟩
    · rw [if_neg (by omega)]
      have hlt : i1 < s.length := by omega
      have hb1 : s.getD i1 0 = 39 := by
        have h1 : spn isNq (s.drop i) < (s.drop i).length := by rw [List.length_drop]; omega
        have := spn_out h1
        rw [List.getD_eq_getElem?_getD, List.getElem?_drop, hi1] at this
        unfold isNq at this
        rw [List.getD_eq_getElem?_getD]
        simpa using this
      rw [drop_get hlt, hb1] at hq
      have ew2 := wrap_suc (j := i1) (by omega)
      simp only [go_sem, reduceIte, Nat.reduceEqDiff, Nat.reduceAdd, Nat.reduceLeDiff, Nat.reduceLT, g0, g2, h3, Int.toNat_natCast, ew2, decide_eq_true_eq, Bool.or_eq_true, Bool.not_eq_true', decide_eq_false_iff_not]
      have c39 : (((s.getD (i1 + 1) 0).toNat : Int) = 39) ↔ s.getD (i1 + 1) 0 = 39 := u8i (k := 39) (by omega)
      refine ⟨by omega, ?_⟩
      by_cases hx : i1 + 1 = s.length ∨ s.getD (i1 + 1) 0 ≠ 39
      · rw [if_pos (hx.imp (fun h => by omega) (fun h e => h (c39.1 e)))]
        have hqv : qv (39 :: s.drop (i1 + 1)) = some ([], 1) := by
          by_cases he2 : i1 + 1 = s.length
          · rw [he2, List.drop_length, qv_end]
          · rw [drop_get (by omega), qv_two (hx.resolve_left he2)]
        rw [hqv] at hq
        have hq' : qv (s.drop 1) = some (t ++ ((s.drop i).takeWhile isNq ++ []), i1) := by
          rw [hq]
          simp only [Option.map_some]
          congr 2
          omega
        obtain ⟨u1, u2, u3⟩ := quot_unq h0 hb hq'
        refine ⟨by omega, WC_p rfl rfl (unquote_ok _ (by rw [List.length_take]; omega)) ?_⟩
        rw [unqR_some u1, quotV_c hb hq']
        generalize t ++ ((s.drop i).takeWhile isNq ++ []) = u
        simp only [go_sem, reduceIte, Nat.reduceEqDiff, Nat.reduceAdd, Nat.reduceLeDiff, Nat.reduceLT, g0, g2, hH, extractV, List.getElem?_cons_succ, List.getElem?_cons_zero, decide_eq_true_eq]
        by_cases h255 : 255 < u.length
        · rw [if_pos (by omega), if_pos h255]
          exact ⟨Nat.le_refl _, Nat.le_refl _, rfl⟩
        · rw [if_neg (by omega), if_neg h255]
          exact ⟨Nat.le_refl _, Nat.le_refl _, rfl⟩
      · rw [not_or, Classical.not_not] at hx
        obtain ⟨hx1, hx2⟩ := hx
        rw [if_neg (by
          rintro (h | h)
          · omega
          · exact h (c39.2 hx2))]
        rw [drop_get (i := i1 + 1) (by omega), hx2, qv_qq] at hq
        refine ⟨s.length - (i1 + 2), by omega, i1 + 2, t ++ ((s.drop i).takeWhile isNq ++ [39]), by omega, by omega, ?_, hH, ?_⟩
        · rw [wrap_suc (j := i1 + 1) (by omega)]
        · rw [hq, Option.map_map, Option.map_map]
          congr 1
          funext x
          simp
          omega
  · rw [if_pos hb, quotV_a hb]
    rfl
end Go.Vm
