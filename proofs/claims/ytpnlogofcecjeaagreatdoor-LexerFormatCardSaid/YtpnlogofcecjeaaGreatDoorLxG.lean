/- Chapter 23: the scanner. -/
import Derived.Test.YtpnlogofcecjeaaGreatDoorLxF
set_option linter.unusedVariables false
set_option linter.unusedSimpArgs false
set_option maxRecDepth 100000
namespace Go.Vm
open Go

def symR (s : List UInt8) : Rc := match symF s with
  | some x => ⟨4, x, x.length, -1⟩
  | none => noRc (-1)
theorem symR_row (s : List UInt8) : symV s = .st (symR s).row := by
  unfold symV symR
  cases symF s <;> rfl
theorem symbol_ok (s : List UInt8) : calL EE 32 [.str s] [] = some (.ret (.st (symR s).row), []) := by
  refine ext_cal (g := symX) (v := .st (symR s).row) rfl ?_ own_st
  rw [← symR_row]
  rfl
/-- A recognizer applies. -/
def hits (r : Rc) : Bool := decide (0 < r.n) || decide (0 ≤ r.bad)
/-- What is found at the beginning of a text. -/
def recV (l : List UInt8) : Rc := if hits (wordV l) = true then wordV l else if hits (intV l) = true then intV l else if hits (quotV l) = true then quotV l else symR l
structure Tok where
  k : Int
  at_ : Int
  t : List UInt8
  deriving Inhabited
def Tok.row (t : Tok) : List SV := [.int .i64 t.k, .int .i64 t.at_, .str t.t]
/-- The tokens of a text that begins with none of white space; or an error's offset. -/
def scanF : Nat → List UInt8 → Nat → Except Nat (List Tok)
  | 0, _, _ => .ok []
  | f + 1, l, a => if l = [] then .ok [] else if (recV l).n = 0 then .error (a + (recV l).bad.toNat) else
      match scanF f (sk false (l.drop (recV l).n)) (a + (recV l).n + skN (l.drop (recV l).n)) with
      | .error e => .error e
      | .ok r => .ok (⟨(recV l).k, a, (recV l).t⟩ :: r)
def scanV (s : List UInt8) : Except Nat (List Tok) := scanF s.length (sk false s) (skN s)
theorem skN_drop (s : List UInt8) : s.drop (skN s) = sk false s := by
  have key : ∀ (l : List UInt8) (m : Bool), l.drop (l.length - (sk m l).length) = sk m l := by
    intro l
    induction l with
    | nil => intro m; rw [sk_nil]; rfl
    | cons b r ih =>
      intro m
      have h1 := @sk_len r false
      have h2 := @sk_len r true
      have g1 : (b :: r).drop ((b :: r).length - (sk false r).length) = sk false r := by
        rw [show (b :: r).length - (sk false r).length = (r.length - (sk false r).length) + 1 by simp; omega, List.drop_succ_cons, ih]
      have g2 : (b :: r).drop ((b :: r).length - (sk true r).length) = sk true r := by
        rw [show (b :: r).length - (sk true r).length = (r.length - (sk true r).length) + 1 by simp; omega, List.drop_succ_cons, ih]
      cases m with
      | false =>
        rw [sk_f]
        split
        · exact g1
        · split
          · exact g2
          · rw [Nat.sub_self]; rfl
      | true =>
        rw [sk_t]
        split
        · exact g1
        · exact g2
  exact key s false
theorem skN_le (s : List UInt8) : skN s ≤ s.length := Nat.sub_le _ _
theorem symF_len {s x : List UInt8} (h : symF s = some x) : 1 ≤ x.length ∧ x.length ≤ s.length := by
  have h1 := List.find?_some h
  have h2 := List.mem_of_find?_eq_some h
  have h3 : symL.all (fun x => decide (1 ≤ x.length)) = true := rfl
  rw [pre_take, decide_eq_true_eq] at h1
  exact ⟨of_decide_eq_true (List.all_eq_true.1 h3 x h2), h1.1⟩
theorem wordV_n {s : List UInt8} : (wordV s).n ≤ s.length := by
  have := @spn_le isWd s
  unfold wordV noRc
  repeat' split
  all_goals first | exact Nat.zero_le _ | exact this
theorem intV_n {s : List UInt8} : (intV s).n ≤ s.length := by
  have := @spn_le isDig s
  unfold intV noRc
  repeat' split
  all_goals first | exact Nat.zero_le _ | exact this
theorem quotV_n {s : List UInt8} (h0 : s ≠ []) : (quotV s).n ≤ s.length := by
  by_cases h : s.getD 0 0 = 39
  · cases hq : qv (s.drop 1) with
    | none => rw [quotV_b h hq]; exact Nat.zero_le _
    | some p =>
      have := quot_unq h0 h (show qv (s.drop 1) = some (p.1, p.2) from hq)
      rw [quotV_c h (show qv (s.drop 1) = some (p.1, p.2) from hq)]
      split
      · exact Nat.zero_le _
      · exact this.2.1
  · rw [quotV_a h]; exact Nat.zero_le _
theorem symR_n {s : List UInt8} : (symR s).n ≤ s.length := by
  unfold symR
  cases h : symF s with
  | none => exact Nat.zero_le _
  | some x => exact (symF_len h).2
theorem recV_n {s : List UInt8} (h0 : s ≠ []) : (recV s).n ≤ s.length := by
  unfold recV
  repeat' split
  · exact wordV_n
  · exact intV_n
  · exact quotV_n h0
  · exact symR_n
theorem wordV_b1 {s : List UInt8} : (wordV s).bad ≤ 0 := by
  unfold wordV noRc
  repeat' split
  all_goals first | exact (by decide : (-1 : Int) ≤ 0) | exact Int.le_refl 0
theorem intV_b1 {s : List UInt8} : (intV s).bad ≤ s.length := by
  have := @spn_le isDig s
  unfold intV noRc
  repeat' split
  all_goals (simp only; omega)
theorem quotV_b1 {s : List UInt8} : (quotV s).bad ≤ 0 := by
  unfold quotV noRc
  repeat' split
  all_goals first | exact (by decide : (-1 : Int) ≤ 0) | exact Int.le_refl 0
theorem symR_b1 {s : List UInt8} : (symR s).bad ≤ 0 := by
  unfold symR noRc
  repeat' split
  all_goals first | exact (by decide : (-1 : Int) ≤ 0) | exact Int.le_refl 0
theorem recV_bad {s : List UInt8} : (recV s).bad ≤ s.length := by
  have h1 := @wordV_b1 s
  have h2 := @intV_b1 s
  have h3 := @quotV_b1 s
  have h4 := @symR_b1 s
  unfold recV
  repeat' split
  all_goals omega
theorem max0 {b : Int} : maxMin true (.i64 b) [.i64 0] = some (.i64 (b.toNat : Nat)) := by
  simp only [maxMin, if_true]
  have : (if b < 0 then (0 : Int) else b) = (b.toNat : Nat) := by split <;> omega
  rw [this]
/-- The middle of a program. -/
theorem WP_mid {E : Env} {c : SC} {T : Nat → PV} {H : Ob} {n : Nat} {Q Q' : Qt} (hno : noOrig c = true) (h : WP E c T H n Q') (hk : ∀ e T1 H1 n1, Kp (wr c) T T1 → Q' e T1 H1 n1 → Q e T1 H1 n1) : WP E c T H n Q := by
  obtain ⟨e, T1, H1, n1, h1, h2, h3⟩ := h
  exact ⟨e, T1, H1, n1, h1, h2, hk e T1 H1 n1 (Y_fr hno h1) h3⟩
def recs : List (FuncId × (List UInt8 → Rc)) := [(29, wordV), (30, intV), (31, quotV), (32, symR)]
def fnRow (f : FuncId) : List SV := [.func f]
theorem rec_ok {l : List UInt8} (h0 : l ≠ []) (hl : l.length ≤ 1000000) : ∀ j, j < 4 → calL EE (recs.getD j default).1 [.str l] [] = some (.ret (.st ((recs.getD j default).2 l).row), [])
  | 0, _ => word_ok l h0 hl
  | 1, _ => int_ok l hl
  | 2, _ => quoted_ok l h0 hl
  | 3, _ => symbol_ok l
  | j + 4, h => by omega
/-- What stands in the place of the finding behind j rounds. -/
def pre (l : List UInt8) : Nat → Rc
  | 0 => noRc 0
  | j + 1 => (recs.getD j default).2 l
theorem rec_hit {l : List UInt8} {j : Nat} (hj : j < 4) (hp : ∀ m, m < j → hits ((recs.getD m default).2 l) = false) (h : hits ((recs.getD j default).2 l) = true) : recV l = (recs.getD j default).2 l := by
  unfold recV
  match j, hj with
  | 0, _ => rw [if_pos (show hits (wordV l) = true from h)]; rfl
  | 1, _ =>
    rw [if_neg (by rw [show hits (wordV l) = false from hp 0 (by omega)]; simp), if_pos (show hits (intV l) = true from h)]; rfl
  | 2, _ =>
    rw [if_neg (by rw [show hits (wordV l) = false from hp 0 (by omega)]; simp), if_neg (by rw [show hits (intV l) = false from hp 1 (by omega)]; simp), if_pos (show hits (quotV l) = true from h)]; rfl
  | 3, _ =>
    rw [if_neg (by rw [show hits (wordV l) = false from hp 0 (by omega)]; simp), if_neg (by rw [show hits (intV l) = false from hp 1 (by omega)]; simp), if_neg (by rw [show hits (quotV l) = false from hp 2 (by omega)]; simp)]; rfl
theorem rec_none {l : List UInt8} (hp : ∀ m, m < 4 → hits ((recs.getD m default).2 l) = false) : recV l = symR l := by
  unfold recV
  rw [if_neg (by rw [show hits (wordV l) = false from hp 0 (by omega)]; simp), if_neg (by rw [show hits (intV l) = false from hp 1 (by omega)]; simp), if_neg (by rw [show hits (quotV l) = false from hp 2 (by omega)]; simp)]
def fsl : List (List SV) := [[.func 29], [.func 30], [.func 31], [.func 32]]
theorem ia_fs {H : Ob} {j : Nat} (h : j < 4) : indexAM (.sl 1) H (.s (.slice fsl true)) (.i64 j) = some (.eptr fsl j 0) := by
  have := ia_sv (f := fun x : FuncId × (List UInt8 → Rc) => [SV.func x.1]) (s := .mk recs true) (size := 1) (H := H) (k := .i64) (i := j) (fun _ => rfl) (by omega)
  rw [gd_true ⟨by omega, by show (j : Int) < ((4 : Nat) : Int); omega⟩] at this
  exact this
theorem load_fs {H : Ob} {j : Nat} (h : j < 4) : loadM false 1 H (.eptr fsl j 0) = some (.s (.func (recs.getD j default).1)) := by
  have := load_eptr (f := fun x : FuncId × (List UInt8 → Rc) => [SV.func x.1]) (l := recs) (i := j) (off := 0) (sz := 1) (agg := false) (H := H)
  rw [if_pos (show j < recs.length from h)] at this
  exact this
def app (l : List Tok) : Except Nat (List Tok) → Except Nat (List Tok)
  | .error e => .error e
  | .ok r => .ok (l ++ r)
theorem scan_ok (s : List UInt8) (hs : s.length ≤ 1000000) : ∃ v, calL EE 9 [.str s] [] = some (.ret v, []) ∧
    ((16384 < s.length ∧ v = .tuple [.s .nils, .i64 0, .i64 6]) ∨ (s.length ≤ 16384 ∧ ((∃ e, scanV s = .error e ∧ v = .tuple [.s .nils, .i64 e, .i64 3]) ∨ ∃ (l : List Tok) (q : Slc Tok), scanV s = .ok l ∧ q.l = l ∧ v = .tuple [.s (q.sv Tok.row), .i64 s.length, .i64 0]))) := by
  refine fn_ex f9 (by simp) ?_
  unfold c9
  simp only [go_sem, reduceIte, Nat.reduceEqDiff, Nat.reduceAdd, Nat.reduceLeDiff, Nat.reduceLT, decide_eq_true_eq]
  by_cases h16 : 16384 < s.length
  · rw [if_pos (by omega)]
    exact .inl h16
  · rw [if_neg (by omega)]
    refine WC_p rfl rfl (skip_ok s hs) ?_
    simp only [go_sem, reduceIte, Nat.reduceEqDiff, Nat.reduceAdd, Nat.reduceLeDiff, Nat.reduceLT]
    have hsk := skN_le s
    refine WP_loop rfl (fun k T H n => ∃ (a f : Nat) (l : List Tok), a + k = s.length ∧ s.length - a ≤ f ∧ T 6 = .i64 a ∧ Own 0 30 3 H n (T 5) (l.map Tok.row) ∧ l.length ≤ a ∧ scanV s = app l (scanF f (s.drop a) a)) (k0 := s.length - skN s) ⟨skN s, s.length, [], by omega, by omega, rfl, .nil, by simp, ?_⟩ ?_
    · unfold scanV
      rw [skN_drop]
      cases scanF s.length (sk false s) (skN s) <;> rfl
    rintro k T' H' n' hf ⟨a, f, l, hak, hfu, h6, ho, hll, hsc⟩
    have h0 : T' 0 = .str s := hf 0 rfl
    clear hf
    by_cases hlt : a < s.length
    · have hlt' : (a : Int) < s.length := by omega
      simp only [go_sem, reduceIte, Nat.reduceEqDiff, Nat.reduceAdd, Nat.reduceLeDiff, Nat.reduceLT, h0, h6, hlt', decide_true, rowsN, List.reduceReplicate]
      have hd0 : s.drop a ≠ [] := fun e => by
        have := congrArg List.length e
        rw [List.length_drop, List.length_nil] at this
        omega
      generalize hr : s.drop a = r at hsc hd0
      have hrl : r.length = s.length - a := by rw [← hr, List.length_drop]
      generalize hHb : H'.set _ _ = H0
      refine WP_mid rfl (Q' := fun e T1 H1 n1 => e = .exit 2 ∧ n' + 5 ≤ n1 ∧ H1 (n' + 4) = .box 42 ((recV r).row.map .s) ∧ ∀ j, j < n' + 4 → H1 j = H' j) ?_ ?_
      · refine WP_scan rfl 21 4 (fun m => hits ((recs.getD m default).2 r) = false) (fun j T H n => n' + 5 ≤ n ∧ H (n' + 4) = .box 42 ((pre r j).row.map .s) ∧ ∀ j, j < n' + 4 → H j = H' j) rfl ⟨by omega, by rw [← hHb, set_at, if_pos rfl]; rfl, fun j hj => by rw [← hHb, set_at, if_neg (by omega)]⟩ ?_ ?_
        · rintro j T2 H2 n2 hlt2 hf hi ⟨hn2, hb2, hk2⟩ hp
          have g0 : T2 0 = .str s := (hf 0 rfl).trans h0
          have g6 : T2 6 = .i64 a := (hf 6 rfl).trans h6
          have g7 : T2 7 = .ptr (n' + 4) 0 := hf 7 rfl
          have g19 : T2 19 = .s (.slice fsl true) := hf 19 rfl
          have g20 : T2 20 = .i64 4 := hf 20 rfl
          clear hf
          have hj : (j : Int) < 4 := by omega
          simp only [go_sem, reduceIte, Nat.reduceEqDiff, Nat.reduceAdd, Nat.reduceLeDiff, Nat.reduceLT, g0, g6, g7, g19, g20, hi, hj, decide_true, ia_fs hlt2, load_fs hlt2, Int.toNat_natCast, List.take_length, hr]
          refine ⟨by omega, WV_s (WC_p rfl rfl (rec_ok hd0 (by omega) j hlt2) ?_)⟩
          have hpre : pre r (j + 1) = (recs.getD j default).2 r := rfl
          have hhit := rec_hit hlt2 hp
          obtain ⟨x, hx⟩ : ∃ x, (recs.getD j default).2 r = x := ⟨_, rfl⟩
          rw [hx] at hpre hhit ⊢
          simp only [go_sem, reduceIte, Nat.reduceEqDiff, Nat.reduceAdd, Nat.reduceLeDiff, Nat.reduceLT, g7, hb2, hi, wrap_suc (show j < 9223372036854775807 by omega), Rc.row]
          have eh : (decide (0 < (x.n : Int)) || decide (0 ≤ x.bad)) = hits x := by
            unfold hits
            congr 1
            rw [decide_eq_decide]
            omega
          rw [eh]
          by_cases hh : hits x = true
          · rw [if_pos hh]
            refine ⟨by omega, by rw [hhit hh], fun j hj => by rw [if_neg (by omega)]; exact hk2 j hj⟩
          · rw [if_neg hh]
            refine ⟨by rw [hx]; simpa using hh, by omega, by rw [hpre], fun j hj => by rw [if_neg (by omega)]; exact hk2 j hj⟩
        · rintro T2 H2 n2 hf hi ⟨hn2, hb2, hk2⟩ hp
          have g20 : T2 20 = .i64 4 := hf 20 rfl
          clear hf
          have hd4 : decide (((4 : Nat) : Int) < 4) = false := rfl
          simp only [go_sem, reduceIte, Nat.reduceEqDiff, Nat.reduceAdd, Nat.reduceLeDiff, Nat.reduceLT, g20, hi, hd4]
          refine ⟨by omega, ?_, hk2⟩
          rw [hb2, rec_none hp]
          rfl
      · rintro e T1 H1 n1 hf ⟨rfl, hn1, hb1, hk1⟩
        have g0 : T1 0 = .str s := (hf 0 rfl).trans h0
        have g6 : T1 6 = .i64 a := (hf 6 rfl).trans h6
        have g7 : T1 7 = .ptr (n' + 4) 0 := hf 7 rfl
        have g5 : T1 5 = T' 5 := hf 5 rfl
        clear hf
        have hrn := recV_n hd0
        have hrb := @recV_bad r
        obtain ⟨f, rfl⟩ : ∃ f', f = f' + 1 := ⟨f - 1, by omega⟩
        rw [scanF, if_neg hd0] at hsc
        generalize recV r = x at hb1 hrn hrb hsc
        simp only [go_sem, reduceIte, Nat.reduceEqDiff, Nat.reduceAdd, Nat.reduceLeDiff, Nat.reduceLT, g0, g6, g7, hb1, Rc.row, decide_eq_true_eq]
        by_cases hx0 : x.n = 0
        · rw [if_pos (by omega)]
          rw [if_pos hx0] at hsc
          have ew := wrap_add (i := a) (j := x.bad.toNat) (by omega)
          simp only [go_sem, reduceIte, Nat.reduceEqDiff, Nat.reduceAdd, Nat.reduceLeDiff, Nat.reduceLT, List.map_cons, List.map_nil, max0, ew]
          exact .inr ⟨by omega, .inl ⟨_, hsc, rfl⟩⟩
        · rw [if_neg (by omega)]
          rw [if_neg hx0] at hsc
          have er : ∀ {HH : Ob}, row1 3 false HH (.st [SV.int .i64 x.k, SV.int .i64 a, SV.str x.t]) = some ([SV.int .i64 x.k, SV.int .i64 a, SV.str x.t], HH) := row1_st rfl
          rw [er, WX_some]
          have ho1 : Own 0 30 3 (H1.set (n' + 4) (.box 42 ([SV.int IntKind.i64 x.k, SV.int IntKind.i64 a, SV.str x.t, SV.int IntKind.i64 x.n, SV.int IntKind.i64 x.bad].map .s))) n' (T1 5) (l.map Tok.row) := by
            rw [g5]
            exact ho.kept (Nat.le_refl _) (fun j _ hj => by rw [set_at, if_neg (by omega)]; exact hk1 j (by omega))
          refine WX_app ho1 rows_slice (by simp) (by simp; omega) (by omega) (by omega) ?_
          intro p1 H2 ho2 hfr2 hof2
          have hb2 : H2 (n' + 4) = .box 42 ([SV.int IntKind.i64 x.k, SV.int IntKind.i64 a, SV.str x.t, SV.int IntKind.i64 x.n, SV.int IntKind.i64 x.bad].map .s) := by
            rw [hfr2 _ (by omega) (ho1.off (by omega))]
            show (H1.set _ _) _ = _
            rw [set_at, if_pos rfl]
          have ew := wrap_add (i := a) (j := x.n) (by omega)
          have hd2 : r.drop x.n = s.drop (a + x.n) := by rw [← hr, List.drop_drop]
          have hsk2 := skN_le (s.drop (a + x.n))
          rw [List.length_drop] at hsk2
          simp only [go_sem, reduceIte, Nat.reduceEqDiff, Nat.reduceAdd, Nat.reduceLeDiff, Nat.reduceLT, g0, g6, g7, hb2, ew, Int.toNat_natCast, List.take_length]
          refine ⟨by omega, WC_p rfl rfl (skip_ok _ (by rw [List.length_drop]; omega)) ?_⟩
          simp only [go_sem, reduceIte, Nat.reduceEqDiff, Nat.reduceAdd, Nat.reduceLeDiff, Nat.reduceLT, g0, g6, g7, hb2, ew]
          rw [hd2, ← skN_drop (s.drop (a + x.n)), List.drop_drop] at hsc
          have ew2 := wrap_add (i := a + x.n) (j := skN (s.drop (a + x.n))) (by omega)
          rw [ew2]
          generalize skN (s.drop (a + x.n)) = m at hsc hsk2
          refine ⟨s.length - (a + x.n + m), by omega, a + x.n + m, f, l ++ [⟨x.k, a, x.t⟩], by omega, by omega, rfl, ?_, by simp; omega, ?_⟩
          · rw [List.map_append]
            exact ho2.kept (by omega) (fun _ _ _ => rfl)
          · rw [hsc]
            cases scanF f (s.drop (a + x.n + m)) (a + x.n + m) with
            | error e => rfl
            | ok r => simp [app]
    · have hlt' : ¬ (a : Int) < s.length := by omega
      simp only [go_sem, reduceIte, Nat.reduceEqDiff, Nat.reduceAdd, Nat.reduceLeDiff, Nat.reduceLT, h0, h6, hlt', decide_false]
      have hd0 : s.drop a = [] := List.drop_of_length_le (by omega)
      rw [hd0] at hsc
      have hsc' : scanV s = .ok l := by
        rw [hsc]
        cases f with
        | zero => simp [scanF, app]
        | succ f => simp [scanF, app]
      obtain ⟨q, hq1, hq2⟩ := ho.back
      simp only [go_sem, reduceIte, Nat.reduceEqDiff, Nat.reduceAdd, Nat.reduceLeDiff, Nat.reduceLT, hq1]
      exact .inr ⟨by omega, .inr ⟨l, q, hsc', hq2, rfl⟩⟩
end Go.Vm
