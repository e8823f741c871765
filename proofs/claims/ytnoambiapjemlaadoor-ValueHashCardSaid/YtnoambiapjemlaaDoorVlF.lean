/- The laws ValueComparison and ValueRowOrder, run by the machine. -/
import Derived.Test.YtnoambiapjemlaaDoorVlD
set_option linter.unusedVariables false
set_option linter.unusedSimpArgs false
set_option maxRecDepth 100000
namespace Go.Vm

theorem run_true {f : FuncId} {args : List PV} (h : ∃ v H1 n1, runL EE f args (Ob.of []) 0 = some (.ret v, H1, n1) ∧ v = .bool true) : ∃ H' n', runL EE f args (Ob.of []) 0 = some (.ret (.bool true), H', n') := by
  obtain ⟨v, H1, n1, h1, rfl⟩ := h
  exact ⟨H1, n1, h1⟩
theorem t9 (a b : Val) (x y : Slc Val) (hx : x.l.length ≤ 9223372036854775807) (hy : y.l.length ≤ 9223372036854775807) : ∃ H' n', runL EE 9 [.st a.row, .st b.row, .s (x.sv Val.row), .s (y.sv Val.row)] (Ob.of []) 0 = some (.ret (.bool true), H', n') := by
  refine run_true ?_
  refine fn_run (R := fun v _ _ => v = .bool true) f9 (by simp) ?_
  unfold c9
  simp only [go_sem, reduceIte, Nat.reduceEqDiff, Nat.reduceAdd, Nat.reduceLeDiff, Nat.reduceLT, Val.row]
  refine WC_p rfl rfl awake01 ?_
  simp only [go_sem, reduceIte, Nat.reduceEqDiff, Nat.reduceAdd, Nat.reduceLeDiff, Nat.reduceLT, rowsN, List.reduceReplicate, row1_st]
  obtain ⟨v, hv, ok, rfl, _⟩ := t16 (.mk [a, b] true) 2 (by show 2 ≤ _; omega)
  refine WC_p rfl rfl hv ?_
  simp only [go_sem, reduceIte, Nat.reduceEqDiff, Nat.reduceAdd, Nat.reduceLeDiff, Nat.reduceLT, Val.row]
  cases ok with
  | false => simp only [go_sem, reduceIte, Nat.reduceEqDiff, Nat.reduceAdd, Nat.reduceLeDiff, Nat.reduceLT]
  | true =>
    simp only [go_sem, reduceIte, Nat.reduceEqDiff, Nat.reduceAdd, Nat.reduceLeDiff, Nat.reduceLT, Val.row]
    obtain ⟨v, hv, ok, rfl, hxs⟩ := t16 x 20 hx
    refine WC_p rfl rfl hv ?_
    simp only [go_sem, reduceIte, Nat.reduceEqDiff, Nat.reduceAdd, Nat.reduceLeDiff, Nat.reduceLT, Val.row]
    cases ok with
    | false => simp only [go_sem, reduceIte, Nat.reduceEqDiff, Nat.reduceAdd, Nat.reduceLeDiff, Nat.reduceLT]
    | true =>
      simp only [go_sem, reduceIte, Nat.reduceEqDiff, Nat.reduceAdd, Nat.reduceLeDiff, Nat.reduceLT, Val.row]
      obtain ⟨v, hv, ok, rfl, hys⟩ := t16 y 20 hy
      refine WC_p rfl rfl hv ?_
      simp only [go_sem, reduceIte, Nat.reduceEqDiff, Nat.reduceAdd, Nat.reduceLeDiff, Nat.reduceLT, Val.row]
      cases ok with
      | false => simp only [go_sem, reduceIte, Nat.reduceEqDiff, Nat.reduceAdd, Nat.reduceLeDiff, Nat.reduceLT]
      | true =>
        have hl := (hxs rfl).2
        simp only [go_sem, reduceIte, Nat.reduceEqDiff, Nat.reduceAdd, Nat.reduceLeDiff, Nat.reduceLT, Val.row]
        refine WC_p rfl rfl (t19 a b) ?_
        simp only [go_sem, reduceIte, Nat.reduceEqDiff, Nat.reduceAdd, Nat.reduceLeDiff, Nat.reduceLT, Val.row]
        refine WC_p rfl rfl (t27 a b) ?_
        simp only [go_sem, reduceIte, Nat.reduceEqDiff, Nat.reduceAdd, Nat.reduceLeDiff, Nat.reduceLT, Val.row, decide_true]
        refine WC_p rfl rfl (t26 x y (by omega)) ?_
        simp only [go_sem, reduceIte, Nat.reduceEqDiff, Nat.reduceAdd, Nat.reduceLeDiff, Nat.reduceLT, Val.row, decide_true]
        refine WC_p rfl rfl (t28 x y (by omega)) ?_
        simp only [go_sem, reduceIte, Nat.reduceEqDiff, Nat.reduceAdd, Nat.reduceLeDiff, Nat.reduceLT, Val.row, decide_true]
        refine WC_p rfl rfl (t20 a b) ?_
        simp only [go_sem, reduceIte, Nat.reduceEqDiff, Nat.reduceAdd, Nat.reduceLeDiff, Nat.reduceLT, Val.row, decide_true]
        have e : decide (a = b) = (decide (a.kind = b.kind) && (decide (a.n = b.n) && decide (a.text = b.text))) := by
          rw [Bool.eq_iff_iff]
          simp only [Bool.and_eq_true, decide_eq_true_eq]
          cases a
          cases b
          simp only [Val.mk.injEq]
        rw [e, beq_self_eq_true]
/-! ### ValueRowOrder -/
theorem lendL_app {H : Ob} {post : List PV} : ∀ {pre : List PV}, pureA pre = true → lendL H (pre ++ post) = bnd (lendL H post) fun b => some (pre ++ b.1, b.2)
  | [], _ => by rw [List.nil_append]; cases lendL H post <;> rfl
  | p :: r, h => by
    have h1 : pureA [p] = true ∧ pureA r = true := by
      cases p with
      | s v => exact ⟨rfl, h⟩
      | agg l => simp only [pureA, Bool.and_eq_true] at h ⊢; exact ⟨⟨h.1, trivial⟩, h.2⟩
      | _ => cases h
    have e1 := (pure_lend (H := H) h1.1).1
    rw [lendL_cons] at e1
    cases hp : lend H p with
    | none => rw [hp] at e1; cases e1
    | some a =>
      rw [hp, bnd_some, lendL_nil, bnd_some] at e1
      injection e1 with e1
      injection e1 with e2 e3
      injection e2 with e2 _
      rw [List.cons_append, lendL_cons, hp, bnd_some, e3, lendL_app h1.2, e2]
      cases lendL H post <;> rfl
theorem idbL_app {a b : List PV} (ha : idbL a = 0) (hb : idbL b = 0) : idbL (a ++ b) = 0 := by
  induction a with
  | nil => exact hb
  | cons p a ih =>
    simp only [idbL] at ha
    simp only [List.cons_append, idbL]
    have := ih (by omega)
    omega
theorem WC_own1m {E : Env} {α : Type} {f : α → List SV} {l : List α} {lo e sz H n0 p} {g : FuncId} {v : PV} {n d T r Q} (pre post : List PV) (h : Own lo e sz H n0 p (l.map f)) (hr : E.ref g = false) (hp : pureA pre = true) (hq : pureA post = true)
    (hc : ∀ s : Slc α, s.l = l → calL E g (pre ++ .s (s.sv f) :: post) [] = some (.ret v, []))
    (hk : ∀ H', Own lo e sz H' n0 p (l.map f) → (∀ j, Off p j → H' j = H j) → WS E false r (putT T d v) H' n Q) : WCs E false g (pre ++ p :: post) H n d T r Q := by
  obtain ⟨s, H', h1, h2, h3, h4⟩ := h.lend
  refine WC_lend hr (a := pre ++ .s (s.sv f) :: post) (H1 := H') ?_ ?_ (fun h => by cases h) (hc s h2) (hk H' h3 h4)
  · rw [lendL_app hp, lendL_cons, h1, bnd_some, (pure_lend hq).1]; rfl
  · refine idbL_app (pure_lend (H := H) hp).2.1 ?_
    simp only [idbL, idb, (pure_lend (H := H) hq).2.1]
    rfl
theorem cmpV_self (a : Val) : cmpV a a = 0 := (tw_val.zero a a).2 rfl
theorem cmpR_self : ∀ x : List Val, cmpR x x = 0
  | [] => rfl
  | a :: x => by rw [cmpR_cons, if_neg (fun h => h (cmpV_self a)), cmpR_self x]
theorem cmpR_app (v : Val) : ∀ x : List Val, cmpR x (x ++ [v]) = -1
  | [] => rfl
  | a :: x => by rw [List.cons_append, cmpR_cons, if_neg (fun h => h (cmpV_self a)), cmpR_app v x]
theorem cmpR_app' (v : Val) : ∀ x : List Val, cmpR (x ++ [v]) x = 1
  | [] => rfl
  | a :: x => by rw [List.cons_append, cmpR_cons, if_neg (fun h => h (cmpV_self a)), cmpR_app' v x]
theorem len_row {l : List Val} : ∀ c ∈ l.map Val.row, c.length = 3 := by
  intro c hc
  obtain ⟨v, _, rfl⟩ := List.mem_map.1 hc
  rfl
theorem t8 (x y : Slc Val) (v : Val) (hx : x.l.length ≤ 9223372036854775807) (hy : y.l.length ≤ 9223372036854775807) : ∃ H' n', runL EE 8 [.s (x.sv Val.row), .s (y.sv Val.row), .st v.row] (Ob.of []) 0 = some (.ret (.bool true), H', n') := by
  refine run_true ?_
  refine fn_run (R := fun v _ _ => v = .bool true) f8 (by simp) ?_
  unfold c8
  simp only [go_sem, reduceIte, Nat.reduceEqDiff, Nat.reduceAdd, Nat.reduceLeDiff, Nat.reduceLT, Val.row]
  refine WC_p rfl rfl awake01 ?_
  simp only [go_sem, reduceIte, Nat.reduceEqDiff, Nat.reduceAdd, Nat.reduceLeDiff, Nat.reduceLT]
  obtain ⟨u, hv, ok, rfl, hxs⟩ := t16 x 20 hx
  refine WC_p rfl rfl hv ?_
  simp only [go_sem, reduceIte, Nat.reduceEqDiff, Nat.reduceAdd, Nat.reduceLeDiff, Nat.reduceLT, Val.row]
  cases ok with
  | false => simp only [go_sem, reduceIte, Nat.reduceEqDiff, Nat.reduceAdd, Nat.reduceLeDiff, Nat.reduceLT]
  | true =>
    simp only [go_sem, reduceIte, Nat.reduceEqDiff, Nat.reduceAdd, Nat.reduceLeDiff, Nat.reduceLT, Val.row]
    obtain ⟨u, hv, ok, rfl, hys⟩ := t16 y 20 hy
    refine WC_p rfl rfl hv ?_
    simp only [go_sem, reduceIte, Nat.reduceEqDiff, Nat.reduceAdd, Nat.reduceLeDiff, Nat.reduceLT, Val.row]
    cases ok with
    | false => simp only [go_sem, reduceIte, Nat.reduceEqDiff, Nat.reduceAdd, Nat.reduceLeDiff, Nat.reduceLT]
    | true =>
      have hl := (hxs rfl).2
      have hl2 := (hys rfl).2
      simp only [go_sem, reduceIte, Nat.reduceEqDiff, Nat.reduceAdd, Nat.reduceLeDiff, Nat.reduceLT, Val.row]
      split
      · trivial
      · refine WX_app (lo := 1) .lit rows_sv len_row (by simp only [List.length_map, List.length_nil]; omega) (Nat.le_refl _) (by omega) ?_
        intro p1 H1 ho1 hf1 hof1
        have hb1 := hf1 0 (by omega) .s
        simp only [go_sem, reduceIte, Nat.reduceEqDiff, Nat.reduceAdd, Nat.reduceLeDiff, Nat.reduceLT, Val.row, hb1, row1_st]
        refine WX_app ho1 rows_slice (by simp) (by simp only [List.length_append, List.length_map, List.length_cons, List.length_nil]; omega) (by omega) (by omega) ?_
        intro p2 H2 ho2 hf2 hof2
        have e2 : ([] ++ x.l.map Val.row) ++ [v.row] = (x.l ++ [v]).map Val.row := by simp
        rw [show ([SV.int .i64 v.kind, .int .i64 v.n, .str v.text]) = v.row from rfl, e2] at ho2
        simp only [go_sem, reduceIte, Nat.reduceEqDiff, Nat.reduceAdd, Nat.reduceLeDiff, Nat.reduceLT]
        refine ⟨all1 (held_app (lo := 1) (e := 23) (sz := 3) (H := H1) (n := 21) rfl rfl rfl (.lit) .s (by omega)), ?_⟩
        have hlen : (x.l ++ [v]).length ≤ 1099511627776 := by simp only [List.length_append, List.length_cons, List.length_nil]; omega
        refine WC_own1m (v := .i64 (-1)) [_] [] ho2 rfl rfl rfl (fun s hs => by have := t26 x s (by omega); rw [hs, cmpR_app] at this; exact this) ?_
        intro H3 ho3 hf3
        simp only [go_sem, reduceIte, Nat.reduceEqDiff, Nat.reduceAdd, Nat.reduceLeDiff, Nat.reduceLT, decide_true]
        refine WC_own1m (v := .i64 1) [] [_] ho3 rfl rfl rfl (fun s hs => by have := t26 s x (by rw [hs]; exact hlen); rw [hs, cmpR_app'] at this; exact this) ?_
        intro H4 ho4 hf4
        simp only [go_sem, reduceIte, Nat.reduceEqDiff, Nat.reduceAdd, Nat.reduceLeDiff, Nat.reduceLT, decide_true]
        refine WC_p rfl rfl (t26 x x (by omega)) ?_
        simp only [go_sem, reduceIte, Nat.reduceEqDiff, Nat.reduceAdd, Nat.reduceLeDiff, Nat.reduceLT, decide_true, cmpR_self]
        refine WP_scan rfl 8 (min x.l.length y.l.length) (fun j => cmpV (x.l.getD j default) (y.l.getD j default) = 0) (fun _ _ _ _ => True) rfl trivial ?_ ?_
        · rintro j T' H' n' hlt hf hi _ hp
          have h0 : T' 0 = .s (x.sv Val.row) := hf 0 rfl
          have h1 : T' 1 = .s (y.sv Val.row) := hf 1 rfl
          clear hf
          have l0 : j < x.l.length := by omega
          have l1 : j < y.l.length := by omega
          simp only [go_sem, reduceIte, Nat.reduceEqDiff, Nat.reduceAdd, Nat.reduceLeDiff, Nat.reduceLT, h0, h1, hi, Int.ofNat_lt, l0, l1, wrap_suc (show j < 9223372036854775807 by omega), decide_true, ia_val, Val.row]
          refine WC_p rfl rfl (t19 (x.l.getD j default) (y.l.getD j default)) ?_
          simp only [go_sem, reduceIte, Nat.reduceEqDiff, Nat.reduceAdd, Nat.reduceLeDiff, Nat.reduceLT, h0, h1, hi, Bool.not_eq_true', decide_eq_false_iff_not, wrap_suc (show j < 9223372036854775807 by omega)]
          split
          · rename_i h5
            refine WC_p rfl rfl (t26 x y (by omega)) ?_
            simp only [go_sem, reduceIte, Nat.reduceEqDiff, Nat.reduceAdd, Nat.reduceLeDiff, Nat.reduceLT, cmpR_at l0 l1 hp h5, decide_true]
          · rename_i h5
            simpa using h5
        · rintro T' H' n' hf hi _ hp
          have h0 : T' 0 = .s (x.sv Val.row) := hf 0 rfl
          have h1 : T' 1 = .s (y.sv Val.row) := hf 1 rfl
          clear hf
          have hc : (decide (((min x.l.length y.l.length : Nat) : Int) < (x.l.length : Int)) && decide (((min x.l.length y.l.length : Nat) : Int) < (y.l.length : Int))) = false := by
            rw [Bool.and_eq_false_iff, decide_eq_false_iff_not, decide_eq_false_iff_not]; omega
          simp only [go_sem, reduceIte, Nat.reduceEqDiff, Nat.reduceAdd, Nat.reduceLeDiff, Nat.reduceLT, h0, h1, hi, hc]
          refine WC_p rfl rfl (t26 x y (by omega)) ?_
          have e3 : decide (cmpR x.l y.l = 0) = decide ((x.l.length : Int) = y.l.length) := by
            rw [decide_eq_decide, cmpR_len (j := min x.l.length y.l.length) (by omega) (by omega) hp (by omega), tw_int.zero]
          simp only [go_sem, reduceIte, Nat.reduceEqDiff, Nat.reduceAdd, Nat.reduceLeDiff, Nat.reduceLT, h0, h1, e3, beq_self_eq_true]
end Go.Vm
