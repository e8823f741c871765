/- The machine over chapter 01's program: its code is served; the example of the chapter. -/
import Derived.Test.YtnoambiapjemlaaDoorVlA
section
set_option linter.unusedVariables false
set_option linter.unusedSimpArgs false
set_option maxRecDepth 100000
namespace Go.Vm
open Go.Proofs Go.RowKit
theorem codes01 : codesB EE useL = true := by kernel_rfl
theorem codesOk01 : CodesOk EE := codes_of codes01 (fun f hf => by simpa [EE] using hf)
theorem awake01 : calL EE 10 [] [] = some (.ret (.bool true), []) := cal_run (n := 200) (by kernel_rfl)
theorem gok01 (W : World) : GOk EE (fixOf W) := fun g p h => by cases h
end Go.Vm
end
section
set_option linter.unusedVariables false
set_option linter.unusedSimpArgs false
set_option maxRecDepth 100000
namespace Go.Vm

structure Val where
  kind : Int
  n : Int
  text : List UInt8
  deriving Inhabited, DecidableEq
def Val.row (v : Val) : List SV := [.int .i64 v.kind, .int .i64 v.n, .str v.text]
def cmpI (a b : Int) : Int := if a < b then -1 else if b < a then 1 else 0
def fst3 (a b c : Int) : Int := if a ≠ 0 then a else if b ≠ 0 then b else c
def cmpV (a b : Val) : Int := fst3 (cmpI a.kind b.kind) (cmpI a.n b.n) (Lib.compareBytes a.text b.text)
theorem ia_val {s : Slc Val} {H : Ob} {k : IntKind} {i : Int} : indexAM (.sl 3) H (.s (s.sv Val.row)) (.s (.int k i)) = gd (0 ≤ i ∧ i < s.l.length) (.eptr (s.l.map Val.row) i.toNat 0) := ia_sv (fun _ => rfl) (by decide)
theorem ia_int {s : Slc Int} {H : Ob} {k : IntKind} {i : Int} : indexAM (.sl 1) H (.s (s.sv fun n => [.int .i64 n])) (.s (.int k i)) = gd (0 ≤ i ∧ i < s.l.length) (.eptr (s.l.map fun n => [.int .i64 n]) i.toNat 0) := ia_sv (fun _ => rfl) (by decide)

theorem t57 (x : Int) : calL EE 57 [.i64 x] [] = some (.ret (.bool false), []) := by
  refine fn_ok f57 (by simp) ?_
  unfold c57
  simp only [go_sem, reduceIte, Nat.reduceEqDiff, Nat.reduceAdd, Nat.reduceLeDiff, Nat.reduceLT, decide_true]
theorem t58 (x : Int) : calL EE 58 [.i64 x] [] = some (.ret (.bool false), []) := by
  refine fn_ok f58 (by simp) ?_
  unfold c58
  simp only [go_sem, reduceIte, Nat.reduceEqDiff, Nat.reduceAdd, Nat.reduceLeDiff, Nat.reduceLT, decide_true]
theorem t42 (a b : Int) : calL EE 42 [.i64 a, .i64 b] [] = some (.ret (.i64 (cmpI a b)), []) := by
  refine fn_ok f42 (by simp) ?_
  unfold c42
  simp only [go_sem, reduceIte, Nat.reduceEqDiff, Nat.reduceAdd, Nat.reduceLeDiff, Nat.reduceLT]
  refine WC_p rfl rfl (t57 a) ?_
  simp only [go_sem, reduceIte, Nat.reduceEqDiff, Nat.reduceAdd, Nat.reduceLeDiff, Nat.reduceLT]
  refine WC_p rfl rfl (t57 b) ?_
  simp only [go_sem, reduceIte, Nat.reduceEqDiff, Nat.reduceAdd, Nat.reduceLeDiff, Nat.reduceLT, decide_eq_true_eq]
  unfold cmpI
  split
  · rfl
  · split
    · rfl
    · rfl
theorem t43 (a b : Int) : calL EE 43 [.i64 a, .i64 b] [] = some (.ret (.i64 (cmpI a b)), []) := by
  refine fn_ok f43 (by simp) ?_
  unfold c43
  simp only [go_sem, reduceIte, Nat.reduceEqDiff, Nat.reduceAdd, Nat.reduceLeDiff, Nat.reduceLT]
  refine WC_p rfl rfl (t58 a) ?_
  simp only [go_sem, reduceIte, Nat.reduceEqDiff, Nat.reduceAdd, Nat.reduceLeDiff, Nat.reduceLT]
  refine WC_p rfl rfl (t58 b) ?_
  simp only [go_sem, reduceIte, Nat.reduceEqDiff, Nat.reduceAdd, Nat.reduceLeDiff, Nat.reduceLT, decide_eq_true_eq]
  unfold cmpI
  split
  · rfl
  · split
    · rfl
    · rfl
theorem t59 (a b : List UInt8) : calL EE 59 [.str a, .str b] [] = some (.ret (.i64 (Lib.compareBytes a b)), []) := ext_cal (g := cmpX) (v := .i64 (Lib.compareBytes a b)) rfl rfl own_s
theorem t44 (a b : List UInt8) : calL EE 44 [.str a, .str b] [] = some (.ret (.i64 (Lib.compareBytes a b)), []) := by
  refine fn_ok f44 (by simp) ?_
  unfold c44
  simp only [go_sem, reduceIte, Nat.reduceEqDiff, Nat.reduceAdd, Nat.reduceLeDiff, Nat.reduceLT]
  refine WC_p rfl rfl (t59 a b) ?_
  simp only [go_sem, reduceIte, Nat.reduceEqDiff, Nat.reduceAdd, Nat.reduceLeDiff, Nat.reduceLT]
theorem t41 (s : Slc Int) (a b c : Int) (hs : s.l = [a, b, c]) : calL EE 41 [.s (s.sv fun n => [.int .i64 n])] [] = some (.ret (.i64 (fst3 a b c)), []) := by
  refine fn_ok f41 (by simp) ?_
  unfold c41
  simp only [go_sem, reduceIte, Nat.reduceEqDiff, Nat.reduceAdd, Nat.reduceLeDiff, Nat.reduceLT, hs]
  refine WP_scan rfl 8 3 (fun j => [a, b, c].getD j 0 = 0) (fun _ _ _ _ => True) rfl trivial ?_ ?_
  · rintro j T' H' n' hlt hf hi _ hp
    have h3 : T' 3 = .i64 0 := hf 3 rfl
    have h6 : T' 6 = .s (s.sv fun n => [.int .i64 n]) := hf 6 rfl
    have h7 : T' 7 = .i64 3 := hf 7 rfl
    clear hf
    have hd : decide ((j : Int) < 3) = true := by rw [decide_eq_true_eq]; omega
    have hj : (j : Int) < s.l.length := by rw [hs]; simp only [List.length_cons, List.length_nil]; omega
    simp only [go_sem, reduceIte, Nat.reduceEqDiff, Nat.reduceAdd, Nat.reduceLeDiff, Nat.reduceLT, h3, h6, h7, hi, ia_int, Int.ofNat_lt, hj, hd, wrap_succ (show j < 4611686018427387904 by omega)]
    have hl : j < s.l.length := by omega
    simp only [go_sem, reduceIte, Nat.reduceEqDiff, Nat.reduceAdd, Nat.reduceLeDiff, Nat.reduceLT, hl, hs, h3, Bool.not_eq_true', decide_eq_false_iff_not]
    have e0 := hp 0
    have e1 := hp 1
    rcases (by omega : j = 0 ∨ j = 1 ∨ j = 2) with rfl | rfl | rfl <;> simp only [go_sem, reduceIte, Nat.reduceEqDiff, Nat.reduceAdd, Nat.reduceLeDiff, Nat.reduceLT] at e0 e1 ⊢
    all_goals split
    · rename_i h; unfold fst3; rw [if_pos h]
    · rename_i h; simpa using h
    · rename_i h; unfold fst3; rw [if_neg (by simp [e0 (by omega)]), if_pos h]
    · rename_i h; simpa using h
    · rename_i h; unfold fst3; rw [if_neg (by simp [e0 (by omega)]), if_neg (by simp [e1 (by omega)])]
    · rename_i h; simpa using h
  · rintro T' H' n' hf hi _ hp
    have h3 : T' 3 = .i64 0 := hf 3 rfl
    have h7 : T' 7 = .i64 3 := hf 7 rfl
    clear hf
    have e0 := hp 0 (by omega)
    have e1 := hp 1 (by omega)
    have e2 := hp 2 (by omega)
    simp only [List.getD_cons_zero, List.getD_cons_succ] at e0 e1 e2
    simp only [go_sem, reduceIte, Nat.reduceEqDiff, Nat.reduceAdd, Nat.reduceLeDiff, Nat.reduceLT, h3, h7, hi, Int.lt_irrefl, decide_false]
    subst e0; subst e1; subst e2
    rfl
theorem t19 (a b : Val) : calL EE 19 [.st a.row, .st b.row] [] = some (.ret (.i64 (cmpV a b)), []) := by
  refine fn_ok f19 (by simp) ?_
  unfold c19
  simp only [go_sem, reduceIte, Nat.reduceEqDiff, Nat.reduceAdd, Nat.reduceLeDiff, Nat.reduceLT, Val.row]
  refine WC_p rfl rfl (t42 a.kind b.kind) ?_
  simp only [go_sem, reduceIte, Nat.reduceEqDiff, Nat.reduceAdd, Nat.reduceLeDiff, Nat.reduceLT, Val.row]
  refine WC_p rfl rfl (t43 a.n b.n) ?_
  simp only [go_sem, reduceIte, Nat.reduceEqDiff, Nat.reduceAdd, Nat.reduceLeDiff, Nat.reduceLT, Val.row]
  refine WC_p rfl rfl (t44 a.text b.text) ?_
  simp only [go_sem, reduceIte, Nat.reduceEqDiff, Nat.reduceAdd, Nat.reduceLeDiff, Nat.reduceLT, Val.row]
  simp only [go_sem, reduceIte, Nat.reduceEqDiff, Nat.reduceAdd, Nat.reduceLeDiff, Nat.reduceLT, rowsN, List.reduceReplicate]
  refine WC_p rfl rfl (t41 (.mk [cmpI a.kind b.kind, cmpI a.n b.n, Lib.compareBytes a.text b.text] true) _ _ _ rfl) ?_
  simp only [go_sem, reduceIte, Nat.reduceEqDiff, Nat.reduceAdd, Nat.reduceLeDiff, Nat.reduceLT]
  rfl
theorem wrap_suc {j : Nat} (h : j < 9223372036854775807) : IntKind.i64.wrap ((j : Int) + 1) = ((j + 1 : Nat) : Int) := by
  rw [wrap_in (by omega) (by omega)]
  omega
def short (l : List Val) (m : Int) : Prop := (∀ j, j < l.length → (l.getD j default).text.length ≤ 300) ∧ (l.length : Int) ≤ m
theorem t16 (s : Slc Val) (m : Int) (hs : s.l.length ≤ 9223372036854775807) : ∃ v, calL EE 16 [.s (s.sv Val.row), .i64 m] [] = some (.ret v, []) ∧ ∃ b, v = .bool b ∧ (b = true → short s.l m) := by
  refine fn_ex f16 (by simp) ?_
  unfold c16
  simp only [go_sem, reduceIte, Nat.reduceEqDiff, Nat.reduceAdd, Nat.reduceLeDiff, Nat.reduceLT]
  refine WP_scan rfl 5 s.l.length (fun j => (s.l.getD j default).text.length ≤ 300) (fun _ _ _ _ => True) rfl trivial ?_ ?_
  · rintro j T' H' n' hlt hf hi _ _
    have h0 : T' 0 = .s (s.sv Val.row) := hf 0 rfl
    clear hf
    simp only [go_sem, reduceIte, Nat.reduceEqDiff, Nat.reduceAdd, Nat.reduceLeDiff, Nat.reduceLT, h0, hi, Int.ofNat_lt, hlt, wrap_suc (show j < 9223372036854775807 by omega), decide_true, ia_val, Val.row]
    split
    · exact ⟨false, rfl, fun h => by cases h⟩
    · rename_i h
      simp only [decide_eq_true_eq] at h
      omega
  · rintro T' H' n' hf hi _ hp
    have h0 : T' 0 = .s (s.sv Val.row) := hf 0 rfl
    have h1 : T' 1 = .i64 m := hf 1 rfl
    clear hf
    simp only [go_sem, reduceIte, Nat.reduceEqDiff, Nat.reduceAdd, Nat.reduceLeDiff, Nat.reduceLT, h0, h1, hi, Int.lt_irrefl, decide_false]
    exact ⟨_, rfl, fun h => ⟨hp, of_decide_eq_true h⟩⟩
theorem t20 (a b : Val) : calL EE 20 [.st a.row, .st b.row] [] = some (.ret (.bool (decide (a = b))), []) := by
  refine fn_ok f20 (by simp) ?_
  unfold c20
  simp only [go_sem, reduceIte, Nat.reduceEqDiff, Nat.reduceAdd, Nat.reduceLeDiff, Nat.reduceLT, Val.row]
  congr 3
  rw [Bool.eq_iff_iff]
  simp only [Bool.and_eq_true, decide_eq_true_eq]
  cases a
  cases b
  simp only [Val.mk.injEq]
end Go.Vm
end
section
set_option linter.unusedVariables false
namespace Go.Vm

/-- A three-way comparison. -/
structure Tw {α : Type} (f : α → α → Int) : Prop where
  lo : ∀ a b, -1 ≤ f a b
  hi : ∀ a b, f a b ≤ 1
  zero : ∀ a b, f a b = 0 ↔ a = b
  anti : ∀ a b, f b a = - f a b
  trans : ∀ a b c, f a b ≤ 0 → f b c ≤ 0 → f a c ≤ 0
theorem tw_int : Tw cmpI where
  lo a b := by unfold cmpI; split <;> (try split) <;> omega
  hi a b := by unfold cmpI; split <;> (try split) <;> omega
  zero a b := by
    unfold cmpI
    by_cases h : a < b
    · rw [if_pos h]; omega
    · rw [if_neg h]
      by_cases h2 : b < a
      · rw [if_pos h2]; omega
      · rw [if_neg h2]; omega
  anti a b := by
    unfold cmpI
    by_cases h : a < b
    · rw [if_pos h, if_neg (by omega), if_pos h]
      rfl
    · rw [if_neg h]
      by_cases h2 : b < a
      · rw [if_pos h2, if_neg h, if_pos h2]
      · rw [if_neg h2, if_neg h, if_neg h2]
        rfl
  trans a b c := by
    unfold cmpI
    intro h1 h2
    have : a ≤ b := by
      apply Classical.byContradiction
      intro h
      rw [if_neg (by omega), if_pos (by omega)] at h1
      omega
    have : b ≤ c := by
      apply Classical.byContradiction
      intro h
      rw [if_neg (by omega), if_pos (by omega)] at h2
      omega
    by_cases h : a < c
    · rw [if_pos h]; omega
    · rw [if_neg h, if_neg (by omega)]
      omega
theorem u8_lt {a b : UInt8} : a < b ↔ a.toNat < b.toNat := Iff.rfl
theorem u8_eq {a b : UInt8} (h : ¬ a < b) (h2 : ¬ b < a) : a = b := UInt8.toNat_inj.1 (by rw [u8_lt] at h h2; omega)
theorem cb_cons {a b : UInt8} {xs ys : List UInt8} : Lib.compareBytes (a :: xs) (b :: ys) = if a < b then -1 else if b < a then 1 else Lib.compareBytes xs ys := rfl
theorem tw_bytes : Tw Lib.compareBytes := by
  have lo : ∀ a b, -1 ≤ Lib.compareBytes a b ∧ Lib.compareBytes a b ≤ 1 := by
    intro a
    induction a with
    | nil => intro b; cases b <;> simp [Lib.compareBytes]
    | cons x xs ih =>
      intro b
      cases b with
      | nil => simp [Lib.compareBytes]
      | cons y ys =>
        rw [cb_cons]
        have := ih ys
        split
        · omega
        · split
          · omega
          · exact this
  refine ⟨fun a b => (lo a b).1, fun a b => (lo a b).2, ?_, ?_, ?_⟩
  · intro a
    induction a with
    | nil => intro b; cases b <;> simp [Lib.compareBytes]
    | cons x xs ih =>
      intro b
      cases b with
      | nil => simp [Lib.compareBytes]
      | cons y ys =>
        rw [cb_cons]
        have := ih ys
        by_cases h : x < y
        · rw [if_pos h]
          constructor
          · intro h; omega
          · intro e; injection e with e1 e2; subst e1; rw [u8_lt] at h; omega
        · rw [if_neg h]
          by_cases h2 : y < x
          · rw [if_pos h2]
            constructor
            · intro h; omega
            · intro e; injection e with e1 e2; subst e1; rw [u8_lt] at h2; omega
          · rw [if_neg h2, this, u8_eq h h2]
            simp
  · intro a
    induction a with
    | nil => intro b; cases b <;> simp [Lib.compareBytes]
    | cons x xs ih =>
      intro b
      cases b with
      | nil => simp [Lib.compareBytes]
      | cons y ys =>
        rw [cb_cons, cb_cons]
        by_cases h : x < y
        · have h2 : ¬ y < x := by rw [u8_lt] at h ⊢; omega
          rw [if_pos h, if_neg h2, if_pos h]
          rfl
        · rw [if_neg h]
          by_cases h2 : y < x
          · rw [if_pos h2, if_neg h, if_pos h2]
          · rw [if_neg h2, if_neg h, if_neg h2, ih ys]
  · intro a
    induction a with
    | nil =>
      intro b c h1 h2
      cases c <;> simp [Lib.compareBytes]
    | cons x xs ih =>
      intro b c h1 h2
      cases b with
      | nil => simp [Lib.compareBytes] at h1
      | cons y ys =>
        cases c with
        | nil => simp [Lib.compareBytes] at h2
        | cons z zs =>
          rw [cb_cons] at h1 h2 ⊢
          simp only [u8_lt] at h1 h2 ⊢
          have hxy : x.toNat ≤ y.toNat := by
            apply Classical.byContradiction
            intro h
            rw [if_neg (by omega), if_pos (by omega)] at h1
            omega
          have hyz : y.toNat ≤ z.toNat := by
            apply Classical.byContradiction
            intro h
            rw [if_neg (by omega), if_pos (by omega)] at h2
            omega
          by_cases h : x.toNat < z.toNat
          · rw [if_pos h]; omega
          · rw [if_neg h, if_neg (by omega)]
            rw [if_neg (by omega), if_neg (by omega)] at h1 h2
            exact ih ys zs h1 h2
theorem fst3_cases (a b c : Int) : (a ≠ 0 ∧ fst3 a b c = a) ∨ (a = 0 ∧ b ≠ 0 ∧ fst3 a b c = b) ∨ (a = 0 ∧ b = 0 ∧ fst3 a b c = c) := by
  unfold fst3
  by_cases h : a = 0
  · by_cases h2 : b = 0
    · right; right; simp [h, h2]
    · right; left; simp [h, h2]
  · left; simp [h]
theorem tw_val : Tw cmpV where
  lo a b := by
    have := tw_int.lo a.kind b.kind
    have := tw_int.lo a.n b.n
    have := tw_bytes.lo a.text b.text
    unfold cmpV
    rcases fst3_cases (cmpI a.kind b.kind) (cmpI a.n b.n) (Lib.compareBytes a.text b.text) with ⟨_, e⟩ | ⟨_, _, e⟩ | ⟨_, _, e⟩ <;> omega
  hi a b := by
    have := tw_int.hi a.kind b.kind
    have := tw_int.hi a.n b.n
    have := tw_bytes.hi a.text b.text
    unfold cmpV
    rcases fst3_cases (cmpI a.kind b.kind) (cmpI a.n b.n) (Lib.compareBytes a.text b.text) with ⟨_, e⟩ | ⟨_, _, e⟩ | ⟨_, _, e⟩ <;> omega
  zero a b := by
    have h1 := tw_int.zero a.kind b.kind
    have h2 := tw_int.zero a.n b.n
    have h3 := tw_bytes.zero a.text b.text
    have e : a = b ↔ a.kind = b.kind ∧ a.n = b.n ∧ a.text = b.text := by cases a; cases b; simp
    rw [e, ← h1, ← h2, ← h3]
    unfold cmpV
    rcases fst3_cases (cmpI a.kind b.kind) (cmpI a.n b.n) (Lib.compareBytes a.text b.text) with ⟨_, e⟩ | ⟨_, _, e⟩ | ⟨_, _, e⟩ <;> omega
  anti a b := by
    have h1 := tw_int.anti a.kind b.kind
    have h2 := tw_int.anti a.n b.n
    have h3 := tw_bytes.anti a.text b.text
    unfold cmpV
    rcases fst3_cases (cmpI a.kind b.kind) (cmpI a.n b.n) (Lib.compareBytes a.text b.text) with ⟨_, e⟩ | ⟨_, _, e⟩ | ⟨_, _, e⟩ <;>
    rcases fst3_cases (cmpI b.kind a.kind) (cmpI b.n a.n) (Lib.compareBytes b.text a.text) with ⟨_, e2⟩ | ⟨_, _, e2⟩ | ⟨_, _, e2⟩ <;> omega
  trans a b c := by
    have t1 := tw_int.trans a.kind b.kind c.kind
    have t2 := tw_int.trans a.n b.n c.n
    have t3 := tw_bytes.trans a.text b.text c.text
    have a1 := tw_int.anti a.kind c.kind
    have r1 := tw_int.trans b.kind c.kind a.kind
    have r1' := tw_int.trans c.kind a.kind b.kind
    have b1 := tw_int.anti a.kind b.kind
    have c1 := tw_int.anti b.kind c.kind
    have a2 := tw_int.anti a.n c.n
    have r2 := tw_int.trans b.n c.n a.n
    have r2' := tw_int.trans c.n a.n b.n
    have b2 := tw_int.anti a.n b.n
    have c2 := tw_int.anti b.n c.n
    unfold cmpV
    rcases fst3_cases (cmpI a.kind b.kind) (cmpI a.n b.n) (Lib.compareBytes a.text b.text) with ⟨_, e⟩ | ⟨_, _, e⟩ | ⟨_, _, e⟩ <;>
    rcases fst3_cases (cmpI b.kind c.kind) (cmpI b.n c.n) (Lib.compareBytes b.text c.text) with ⟨_, e2⟩ | ⟨_, _, e2⟩ | ⟨_, _, e2⟩ <;>
    rcases fst3_cases (cmpI a.kind c.kind) (cmpI a.n c.n) (Lib.compareBytes a.text c.text) with ⟨_, e3⟩ | ⟨_, _, e3⟩ | ⟨_, _, e3⟩ <;> omega
end Go.Vm
end
