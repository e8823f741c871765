/- Chapter 24: the law SqlformatSpoiled. -/
import Derived.Test.YtaepmmmcipolbaaGreatDoorSfW
set_option linter.unusedVariables false
set_option linter.unusedSimpArgs false
set_option maxRecDepth 100000
namespace Go.Vm
open Go

theorem spoil (k : Int) (v : Val) (tb nm : List UInt8) (op fn : Int) (fl : Option Bool) (xs : List Tr) (hw : wf (.mk k v tb nm op fn fl xs)) (h1 : vld (.mk k v tb nm op fn fl xs) = false) (h2 : cal (.mk k v tb nm op fn fl xs) = false) :
    calL EE 12 [.st [.int .i64 k, .int .i64 v.kind, .int .i64 v.n, .str v.text, .str tb, .str nm, .int .i64 op, .int .i64 fn, (mkS fl xs).sv Tr.row]] [] = some (.ret (.bool false), []) ∧
    calL EE 14 [.st [.int .i64 k, .int .i64 v.kind, .int .i64 v.n, .str v.text, .str tb, .str nm, .int .i64 op, .int .i64 fn, (mkS fl xs).sv Tr.row]] [] = some (.ret (.str []), []) := by
  have e0 := valid_ok _ _ (Nat.le_refl _) hw
  have e1 := expr_ok _ hw (fun h => by rw [h1, h2] at h; simp at h)
  have ee : exprV (.mk k v tb nm op fn fl xs) = [] := by
    unfold exprV
    rw [h1, h2]
    rfl
  rw [h1, row_mk] at e0
  rw [ee, row_mk] at e1
  exact ⟨e0, e1⟩
theorem no_cal {k : Int} {v : Val} {tb nm : List UInt8} {op fn : Int} {fl : Option Bool} {xs : List Tr} (h : ¬ k = 3) : cal (.mk k v tb nm op fn fl xs) = false := by
  rw [cal, decide_eq_false h]
  rfl
def z9 : List SV := [.int .i64 0, .int .i64 0, .int .i64 0, .str [], .str [], .str [], .int .i64 0, .int .i64 0, .nils]
theorem rowsOf_sv {α : Type} {f : α → List SV} {s : Slc α} {H : Ob} : rowsOf H (.s (s.sv f)) = some (s.l.map f) := by cases s <;> rfl
theorem Own.up {lo e sz H n m p rows} (h : Own lo e sz H n p rows) (hm : n ≤ m) : Own lo e sz H m p rows := by
  rcases h with h | h | ⟨id, ver, fz, h1, h2, h3⟩
  · exact .inl h
  · exact .inr (.inl h)
  · exact .inr (.inr ⟨id, ver, fz, h1, by omega, h3⟩)
theorem wfL_app : ∀ {l m : List Tr}, wfL l → wfL m → wfL (l ++ m)
  | [], m, _, h => h
  | a :: l, m, h, h2 => by
    rw [wfL] at h
    rw [List.cons_append, wfL]
    exact ⟨h.1, wfL_app h.2 h2⟩
theorem parts2z {sz : Nat} {dr : Bool} {H : Ob} {z x y : List SV} {T : Nat → PV} {i j : Nat} (hi : T i = .st x) (hj : T j = .st y) (lx : x.length = sz) (ly : y.length = sz) : partsX sz dr H (List.replicate 2 z) (vpX T [(0, .t i), (1, .t j)]) = some ([x, y], H) := by
  simp only [vpX_cons, vpX_nil, partsX_cons, partsX_nil, show valX T (.t i) = .st x from hi, show valX T (.t j) = .st y from hj, row1_st lx, row1_st ly, bnd_some]
  rfl
theorem not_true {b : Bool} (h : b = true → False) : b = false := by
  cases b with
  | false => rfl
  | true => exact (h rfl).elim
set_option maxHeartbeats 4000000 in
theorem spoiled_law (t : Tr) (hw : wf t) (how : Int) (hh : 0 ≤ how ∧ how ≤ 255) : ∃ H' n', runL EE 7 [.st t.row, .s (.int .u8 how)] (Ob.of []) 0 = some (.ret (.bool true), H', n') := by
  refine run_true ?_
  refine fn_run (R := fun v _ _ => v = .bool true) f7 (by simp) ?_
  unfold c7
  have la := row_len t
  have hta : List.take 9 t.row = t.row := List.take_of_length_le (by omega)
  have few := few_ok t 60 hw
  have val := valid_ok _ t (Nat.le_refl _) hw
  cases t with
  | mk k v tb nm op fn fl xs =>
    rw [row_mk] at few val
    rw [row_mk]
    simp only [go_sem, reduceIte, Nat.reduceEqDiff, Nat.reduceAdd, Nat.reduceLeDiff, Nat.reduceLT]
    refine WC_p rfl (by rw [pure_st (l := [_, _, _, _, _, _, _, _, _])]; rfl) few ?_
    by_cases hf : ¬ 0 ≤ nod (.mk k v tb nm op fn fl xs) 60
    · have d : decide (0 ≤ nod (.mk k v tb nm op fn fl xs) 60) = false := decide_eq_false hf
      simp only [go_sem, reduceIte, Nat.reduceEqDiff, Nat.reduceAdd, Nat.reduceLeDiff, Nat.reduceLT, d, Bool.not_false]
      refine WC_p rfl rfl awake24 ?_
      simp only [go_sem, reduceIte, Nat.reduceEqDiff, Nat.reduceAdd, Nat.reduceLeDiff, Nat.reduceLT]
    have hf := Decidable.not_not.1 hf
    have d : decide (0 ≤ nod (.mk k v tb nm op fn fl xs) 60) = true := decide_eq_true hf
    simp only [go_sem, reduceIte, Nat.reduceEqDiff, Nat.reduceAdd, Nat.reduceLeDiff, Nat.reduceLT, d, Bool.not_true]
    refine WC_p rfl (by rw [pure_st (l := [_, _, _, _, _, _, _, _, _])]; rfl) val ?_
    cases hv : vld (.mk k v tb nm op fn fl xs) with
    | false =>
      simp only [go_sem, reduceIte, Nat.reduceEqDiff, Nat.reduceAdd, Nat.reduceLeDiff, Nat.reduceLT, d, Bool.not_true, Bool.not_false]
      refine WC_p rfl rfl awake24 ?_
      simp only [go_sem, reduceIte, Nat.reduceEqDiff, Nat.reduceAdd, Nat.reduceLeDiff, Nat.reduceLT]
    | true =>
      have h5 : ((5 : Int) ≠ 0) = True := by simp
      simp only [go_sem, reduceIte, Nat.reduceEqDiff, Nat.reduceAdd, Nat.reduceLeDiff, Nat.reduceLT, d, Bool.not_true, h5]
      have hv' := hv
      rw [vld] at hv'
      have hw' := hw
      rw [wf] at hw'
      by_cases c0 : how.tmod 5 = 0
      · have q0 : decide (how.tmod 5 = 0) = true := decide_eq_true c0
        have r := spoil k v tb nm op 1 fl xs (by rw [wf]; exact hw') (not_true fun h => by
          rw [vld] at h
          rcases vld_cases h with ⟨_, _, _, _, _, _, e, _⟩ | ⟨_, _, _, _, _, e, _⟩ | ⟨_, _, _, _, _, _, _, _, e⟩ <;> omega) (no_cal (by rcases vld_cases hv' with ⟨e, _⟩ | ⟨e, _⟩ | ⟨e, _⟩ <;> omega))
        simp only [q0, if_true]
        refine WC_p rfl (by rw [pure_st (l := [_, _, _, _, _, _, _, _, _])]; rfl) r.1 ?_
        simp only [go_sem, reduceIte, Nat.reduceEqDiff, Nat.reduceAdd, Nat.reduceLeDiff, Nat.reduceLT, Bool.not_false]
        refine WC_p rfl (by rw [pure_st (l := [_, _, _, _, _, _, _, _, _])]; rfl) r.2 ?_
        simp only [go_sem, reduceIte, Nat.reduceEqDiff, Nat.reduceAdd, Nat.reduceLeDiff, Nat.reduceLT, Bool.not_false, decide_true]
        refine WC_p rfl rfl awake24 ?_
        simp only [go_sem, reduceIte, Nat.reduceEqDiff, Nat.reduceAdd, Nat.reduceLeDiff, Nat.reduceLT, Bool.not_false, decide_true]
      have q0 : decide (how.tmod 5 = 0) = false := decide_eq_false c0
      by_cases c1 : how.tmod 5 = 1
      · have q1 : decide (how.tmod 5 = 1) = true := decide_eq_true c1
        have hxl : xs.length ≤ 2 := by
          rcases vld_cases hv' with ⟨_, _, _, _, _, _, _, e⟩ | ⟨_, _, _, _, _, _, e⟩ | ⟨_, _, _, e, _⟩
          · omega
          · omega
          · rw [e]; unfold arI; split <;> omega
        have hw2 : wf (.mk k v tb nm op fn (some true) (xs ++ [eTr 0, eTr 0])) := by
          rw [wf]
          refine ⟨hw'.1, by rw [List.length_append]; simp only [List.length_cons, List.length_nil]; omega, wfL_app hw'.2.2 ?_⟩
          rw [wfL, wfL, wfL]
          have : wf (eTr 0) := by unfold eTr; rw [wf, wfL]; exact ⟨⟨by decide, by decide⟩, by simp, trivial⟩
          exact ⟨this, this, trivial⟩
        have v2 : vld (.mk k v tb nm op fn (some true) (xs ++ [eTr 0, eTr 0])) = false := not_true fun h => by
          rw [vld, List.length_append] at h
          simp only [List.length_cons, List.length_nil] at h
          rcases vld_cases h with ⟨_, _, _, _, _, _, _, e⟩ | ⟨_, _, _, _, _, _, e⟩ | ⟨e0, _, _, e, _⟩
          · omega
          · omega
          · rcases vld_cases hv' with ⟨e1, _⟩ | ⟨e1, _⟩ | ⟨_, _, _, e1, _⟩
            · omega
            · omega
            · omega
        have c2' : ∀ fl, cal (.mk k v tb nm op fn fl (xs ++ [eTr 0, eTr 0])) = false := fun fl => no_cal (by rcases vld_cases hv' with ⟨e, _⟩ | ⟨e, _⟩ | ⟨e, _⟩ <;> omega)
        have r := spoil k v tb nm op fn (some true) (xs ++ [eTr 0, eTr 0]) hw2 v2 (c2' _)
        have r' := spoil k v tb nm op fn (some false) (xs ++ [eTr 0, eTr 0]) (by rw [wf] at hw2 ⊢; exact hw2) (by rw [vld] at v2 ⊢; exact v2) (c2' _)
        have hap : (xs ++ [eTr 0, eTr 0]).map Tr.row = xs.map Tr.row ++ [z9, z9] := by
          rw [List.map_append]
          show _ ++ [(eTr 0).row, (eTr 0).row] = _
          rw [eTr_row]
          rfl
        simp only [q0, q1, if_true, if_false, Bool.false_eq_true]
        refine WX_app (lo := 1) (sz := 9) (rows := []) (new := xs.map Tr.row) Own.lit (rowsOf_sv.trans (by rw [mkS_l])) (fun c hc => ?_) (by simp only [List.length_map, List.length_nil]; omega) (Nat.le_refl _) (by omega) ?_
        · obtain ⟨a, _, rfl⟩ := List.mem_map.1 hc
          exact row_len a
        intro p1 H1 o1 k1 k2
        have hH1 : H1 0 = .box 26 ([SV.int .i64 k, .int .i64 v.kind, .int .i64 v.n, .str v.text, .str tb, .str nm, .int .i64 op, .int .i64 fn, (mkS fl xs).sv Tr.row].map .s) := (k1 0 (by omega) (fun _ _ _ _ h => by cases h)).trans rfl
        have f1 : Off p1 0 := k2 0 (by omega) (fun _ _ _ _ h => by cases h)
        clear k1 k2
        rw [List.nil_append] at o1
        simp only [go_sem, reduceIte, Nat.reduceEqDiff, Nat.reduceAdd, Nat.reduceLeDiff, Nat.reduceLT]
        rw [rowsN, parts2z (sz := 9) (x := z9) (y := z9) rfl rfl rfl rfl, WX_some]
        simp only [go_sem, reduceIte, Nat.reduceEqDiff, Nat.reduceAdd, Nat.reduceLeDiff, Nat.reduceLT]
        refine WX_app (lo := 1) (sz := 9) (rows := xs.map Tr.row) (new := [z9, z9]) (o1.up (m := 23) (by omega)) rfl (fun c hc => by simp at hc; rw [hc]; rfl) (by simp only [List.length_map, List.length_cons, List.length_nil]; omega) (by omega) (by omega) ?_
        intro p2 H2 o2 k1 k2
        have hH2 := (k1 0 (by omega) f1).trans hH1
        rw [← hap] at o2
        clear k1 k2 f1 hH1 o1
        rcases o2 with ⟨_, e2⟩ | ⟨e2, _⟩ | ⟨id, ver, fz, i1, i2, e2, i3⟩
        · exfalso
          rw [hap] at e2
          simp at e2
        · subst e2
          simp only [go_sem, reduceIte, Nat.reduceEqDiff, Nat.reduceAdd, Nat.reduceLeDiff, Nat.reduceLT, hH2]
          refine WC_p rfl (by rw [pure_st (l := [_, _, _, _, _, _, _, _, _])]; rfl) r.1 ?_
          simp only [go_sem, reduceIte, Nat.reduceEqDiff, Nat.reduceAdd, Nat.reduceLeDiff, Nat.reduceLT, Bool.not_false]
          refine WC_p rfl (by rw [pure_st (l := [_, _, _, _, _, _, _, _, _])]; rfl) r.2 ?_
          simp only [go_sem, reduceIte, Nat.reduceEqDiff, Nat.reduceAdd, Nat.reduceLeDiff, Nat.reduceLT, Bool.not_false, decide_true]
          refine WC_p rfl rfl awake24 ?_
          simp only [go_sem, reduceIte, Nat.reduceEqDiff, Nat.reduceAdd, Nat.reduceLeDiff, Nat.reduceLT, Bool.not_false, decide_true]
        · subst e2
          have hne : (id = 0) = False := eq_false (by omega)
          simp only [go_sem, reduceIte, Nat.reduceEqDiff, Nat.reduceAdd, Nat.reduceLeDiff, Nat.reduceLT, hH2, hne]
          generalize hR : List.map Tr.row (xs ++ [eTr 0, eTr 0]) = R at i3
          have hl : (xs ++ [eTr 0, eTr 0]).length = R.length := by rw [← hR, List.length_map]
          rw [hl]
          let C : List PV := [.s (.int .i64 k), .s (.int .i64 v.kind), .s (.int .i64 v.n), .s (.str v.text), .s (.str tb), .s (.str nm), .s (.int .i64 op), .s (.int .i64 fn), .hsl id ver 0 R.length]
          have st : storeB 1 8 (.hsl id ver 0 R.length) H2 0 (HObj.box 26 (List.map PV.s [SV.int IntKind.i64 k, SV.int IntKind.i64 v.kind, SV.int IntKind.i64 v.n, SV.str v.text, SV.str tb, SV.str nm, SV.int IntKind.i64 op, SV.int IntKind.i64 fn, Slc.sv Tr.row (mkS fl xs)])) = some (H2.set 0 (.box 26 C)) := rfl
          rw [st, WX_some]
          have ld : loadP true 9 C 0 = some (.agg C) := rfl
          simp only [go_sem, reduceIte, Nat.reduceEqDiff, Nat.reduceAdd, Nat.reduceLeDiff, Nat.reduceLT, ld]
          have hz : ∀ (H : Ob) (b : Bool), H id = .sarr 26 9 ver b true R → lendL H [.agg C] = some ([.st [.int .i64 k, .int .i64 v.kind, .int .i64 v.n, .str v.text, .str tb, .str nm, .int .i64 op, .int .i64 fn, .slice R false]], H.set id (.sarr 26 9 ver true true R)) := by
            intro H b hH
            have hr : rowsOf H (.hsl id ver 0 R.length) = some R := (show Own 1 26 9 H (id + 1) (.hsl id ver 0 R.length) R from .inr (.inr ⟨id, ver, b, i1, by omega, rfl, hH⟩)).rows
            have hf : freeze1 H id = H.set id (.sarr 26 9 ver true true R) := by unfold freeze1; rw [hH]
            simp only [C, lendL, lend, hr, bnd_some, hf]
            rfl
          subst hR
          have hi0 : (0 : Nat) ≠ id := by omega
          have s1 : (H2.set 0 (.box 26 C)) id = .sarr 26 9 ver fz true (List.map Tr.row (xs ++ [eTr 0, eTr 0])) := by
            unfold Ob.set
            rw [if_neg (by omega)]
            exact i3
          refine WC_lend rfl (hz _ _ s1) rfl (fun h => by cases h) r'.1 ?_
          have hl0 : ∀ o, ((H2.set 0 (.box 26 C)).set id o) 0 = .box 26 C := by
            intro o
            unfold Ob.set
            rw [if_neg (by omega), if_pos rfl]
          simp only [go_sem, reduceIte, Nat.reduceEqDiff, Nat.reduceAdd, Nat.reduceLeDiff, Nat.reduceLT, hl0, ld, Bool.not_false]
          refine WC_lend rfl (hz _ true (by unfold Ob.set; rw [if_pos rfl])) rfl (fun h => by cases h) r'.2 ?_
          simp only [go_sem, reduceIte, Nat.reduceEqDiff, Nat.reduceAdd, Nat.reduceLeDiff, Nat.reduceLT, Bool.not_false, decide_true]
          refine WC_p rfl rfl awake24 ?_
          simp only [go_sem, reduceIte, Nat.reduceEqDiff, Nat.reduceAdd, Nat.reduceLeDiff, Nat.reduceLT, Bool.not_false, decide_true]
      have q1 : decide (how.tmod 5 = 1) = false := decide_eq_false c1
      by_cases c2 : how.tmod 5 = 2
      · have q2 : decide (how.tmod 5 = 2) = true := decide_eq_true c2
        have hk : k = 0 ∨ k = 1 ∨ k = 2 := by rcases vld_cases hv' with ⟨e, _⟩ | ⟨e, _⟩ | ⟨e, _⟩ <;> omega
        have wk := wrap_in (x := k + 5) (by omega) (by omega)
        have r := spoil (k + 5) v tb nm op fn fl xs (by rw [wf]; exact hw') (not_true fun h => by
          rw [vld] at h
          rcases vld_cases h with ⟨e, _⟩ | ⟨e, _⟩ | ⟨e, _⟩ <;> omega) (no_cal (by omega))
        simp only [q0, q1, q2, if_true, if_false, Bool.false_eq_true, wk]
        refine WC_p rfl (by rw [pure_st (l := [_, _, _, _, _, _, _, _, _])]; rfl) r.1 ?_
        simp only [go_sem, reduceIte, Nat.reduceEqDiff, Nat.reduceAdd, Nat.reduceLeDiff, Nat.reduceLT, Bool.not_false]
        refine WC_p rfl (by rw [pure_st (l := [_, _, _, _, _, _, _, _, _])]; rfl) r.2 ?_
        simp only [go_sem, reduceIte, Nat.reduceEqDiff, Nat.reduceAdd, Nat.reduceLeDiff, Nat.reduceLT, Bool.not_false, decide_true]
        refine WC_p rfl rfl awake24 ?_
        simp only [go_sem, reduceIte, Nat.reduceEqDiff, Nat.reduceAdd, Nat.reduceLeDiff, Nat.reduceLT, Bool.not_false, decide_true]
      have q2 : decide (how.tmod 5 = 2) = false := decide_eq_false c2
      by_cases c3 : how.tmod 5 = 3
      · have q3 : decide (how.tmod 5 = 3) = true := decide_eq_true c3
        have hsm := vld_sm _ hv
        rw [sm] at hsm
        have htl := hsm.2.1
        have r := spoil k v (tb ++ [46]) nm op fn fl xs (by rw [wf]; exact hw') (not_true fun h => by
          rw [vld] at h
          rcases vld_cases h with ⟨_, _, _, e, _⟩ | ⟨_, _, e, _⟩ | ⟨_, _, _, _, _, _, e, _⟩
          · simp at e
          · unfold optV nameV at e
            rw [List.all_append] at e
            simp [nmB, isLow, isDig] at e
          · simp at e) (no_cal (by rcases vld_cases hv' with ⟨e, _⟩ | ⟨e, _⟩ | ⟨e, _⟩ <;> omega))
        simp only [q0, q1, q2, q3, if_true, if_false, Bool.false_eq_true, List.length_append, List.length_cons, List.length_nil]
        refine ⟨by omega, ?_⟩
        refine WC_p rfl (by rw [pure_st (l := [_, _, _, _, _, _, _, _, _])]; rfl) r.1 ?_
        simp only [go_sem, reduceIte, Nat.reduceEqDiff, Nat.reduceAdd, Nat.reduceLeDiff, Nat.reduceLT, Bool.not_false]
        refine WC_p rfl (by rw [pure_st (l := [_, _, _, _, _, _, _, _, _])]; rfl) r.2 ?_
        simp only [go_sem, reduceIte, Nat.reduceEqDiff, Nat.reduceAdd, Nat.reduceLeDiff, Nat.reduceLT, Bool.not_false, decide_true]
        refine WC_p rfl rfl awake24 ?_
        simp only [go_sem, reduceIte, Nat.reduceEqDiff, Nat.reduceAdd, Nat.reduceLeDiff, Nat.reduceLT, Bool.not_false, decide_true]
      have q3 : decide (how.tmod 5 = 3) = false := decide_eq_false c3
      have c4 : how.tmod 5 = 4 := by
        rw [Int.tmod_eq_emod_of_nonneg hh.1] at c0 c1 c2 c3 ⊢
        omega
      have q4 : decide (how.tmod 5 = 4) = true := decide_eq_true c4
      by_cases hk : k = 0
      · have dk : decide (k = 0) = true := decide_eq_true hk
        have r := spoil k v tb [97] op fn fl xs (by rw [wf]; exact hw') (not_true fun h => by
          rw [vld] at h
          rcases vld_cases h with ⟨_, _, _, _, e, _⟩ | ⟨e, _⟩ | ⟨e, _⟩
          · simp at e
          · omega
          · omega) (no_cal (by omega))
        simp only [q0, q1, q2, q3, q4, dk, if_true, if_false, Bool.false_eq_true]
        refine WC_p rfl (by rw [pure_st (l := [_, _, _, _, _, _, _, _, _])]; rfl) r.1 ?_
        simp only [go_sem, reduceIte, Nat.reduceEqDiff, Nat.reduceAdd, Nat.reduceLeDiff, Nat.reduceLT, Bool.not_false]
        refine WC_p rfl (by rw [pure_st (l := [_, _, _, _, _, _, _, _, _])]; rfl) r.2 ?_
        simp only [go_sem, reduceIte, Nat.reduceEqDiff, Nat.reduceAdd, Nat.reduceLeDiff, Nat.reduceLT, Bool.not_false, decide_true]
        refine WC_p rfl rfl awake24 ?_
        simp only [go_sem, reduceIte, Nat.reduceEqDiff, Nat.reduceAdd, Nat.reduceLeDiff, Nat.reduceLT, Bool.not_false, decide_true]
      · have dk : decide (k = 0) = false := decide_eq_false hk
        have r := spoil k ⟨0, 1, []⟩ tb nm op fn fl xs (by rw [wf]; exact ⟨⟨by decide, by decide⟩, hw'.2⟩) (not_true fun h => by
          rw [vld] at h
          rcases vld_cases h with ⟨e, _⟩ | ⟨_, _, _, e, _⟩ | ⟨_, _, _, _, _, e, _⟩
          · exact hk e
          · simp [vz] at e
          · simp [vz] at e) (no_cal (by rcases vld_cases hv' with ⟨e, _⟩ | ⟨e, _⟩ | ⟨e, _⟩ <;> omega))
        simp only [q0, q1, q2, q3, q4, dk, if_true, if_false, Bool.false_eq_true]
        refine WC_p rfl (by rw [pure_st (l := [_, _, _, _, _, _, _, _, _])]; rfl) r.1 ?_
        simp only [go_sem, reduceIte, Nat.reduceEqDiff, Nat.reduceAdd, Nat.reduceLeDiff, Nat.reduceLT, Bool.not_false]
        refine WC_p rfl (by rw [pure_st (l := [_, _, _, _, _, _, _, _, _])]; rfl) r.2 ?_
        simp only [go_sem, reduceIte, Nat.reduceEqDiff, Nat.reduceAdd, Nat.reduceLeDiff, Nat.reduceLT, Bool.not_false, decide_true]
        refine WC_p rfl rfl awake24 ?_
        simp only [go_sem, reduceIte, Nat.reduceEqDiff, Nat.reduceAdd, Nat.reduceLeDiff, Nat.reduceLT, Bool.not_false, decide_true]
end Go.Vm
