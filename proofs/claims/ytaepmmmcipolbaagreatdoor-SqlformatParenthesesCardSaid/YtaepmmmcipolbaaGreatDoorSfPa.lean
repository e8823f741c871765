/- Chapter 24: the law SqlformatParentheses. -/
import Derived.Test.YtaepmmmcipolbaaGreatDoorSfW
set_option linter.unusedVariables false
set_option linter.unusedSimpArgs false
set_option maxRecDepth 100000
namespace Go.Vm
open Go

/-- An operation of these arguments. -/
def opTr (op : Int) (xs : List Tr) : Tr := .mk 2 vz [] [] op 0 (some true) xs
theorem opTr_ok (op : Int) (xs : List Tr) : calL EE 27 [.i64 op, .s (.slice (xs.map Tr.row) true)] [] = some (.ret (.st (opTr op xs).row), []) := by
  refine fn_ok f27 (by simp) ?_
  unfold c27 opTr
  rw [row_mk]
  simp only [go_sem, reduceIte, Nat.reduceEqDiff, Nat.reduceAdd, Nat.reduceLeDiff, Nat.reduceLT]
  rfl
theorem in_ok (t : Tr) (req : Int) (hw : wf t) (hn : cnt t ≤ 10000) (hv : vld t = true) : calL EE 25 [.st t.row, .i64 req] [] = some (.ret (.str (atP (lvl t, txt t) req)), []) := by
  have he : exprV t = txt t := by unfold exprV; rw [hv]; rfl
  have hl := txt_len t hw hv
  have hx := expr_ok t hw (fun _ => hn)
  rw [he] at hx
  refine fn_ok f25 (by simp) ?_
  unfold c25 atP
  have lr := row_len t
  have htk : List.take 9 t.row = t.row := List.take_of_length_le (by omega)
  simp only [go_sem, reduceIte, Nat.reduceEqDiff, Nat.reduceAdd, Nat.reduceLeDiff, Nat.reduceLT, htk]
  refine ⟨by omega, WC_p rfl (by rw [pure_st]; rfl) (refLevel_ok t) ?_⟩
  by_cases hq : lvl t < req
  · have d : decide (lvl t < req) = true := decide_eq_true hq
    rw [if_pos hq]
    simp only [go_sem, reduceIte, Nat.reduceEqDiff, Nat.reduceAdd, Nat.reduceLeDiff, Nat.reduceLT, d, htk]
    refine ⟨by omega, WC_p rfl (by rw [pure_st]; rfl) hx ?_⟩
    simp only [go_sem, reduceIte, Nat.reduceEqDiff, Nat.reduceAdd, Nat.reduceLeDiff, Nat.reduceLT, List.cons_append, List.nil_append, List.length_append, List.length_cons, List.length_nil]
    omega
  · have d : decide (lvl t < req) = false := decide_eq_false hq
    rw [if_neg hq]
    simp only [go_sem, reduceIte, Nat.reduceEqDiff, Nat.reduceAdd, Nat.reduceLeDiff, Nat.reduceLT, d, htk]
    refine ⟨by omega, WC_p rfl (by rw [pure_st]; rfl) hx ?_⟩
    simp only [go_sem, reduceIte, Nat.reduceEqDiff, Nat.reduceAdd, Nat.reduceLeDiff, Nat.reduceLT]
theorem opTr_vld {op : Int} {xs : List Tr} (h0 : 0 ≤ op) (h1 : op ≤ 13) (hl : xs.length = arI op) (hv : vldL xs = true) : vld (opTr op xs) = true := by
  unfold opTr
  rw [vld]
  unfold vldB
  rw [if_neg (by decide), if_neg (by decide), if_pos rfl, hv]
  simp [h0, h1, hl]
theorem opTr_txt {op : Int} {xs : List Tr} (h0 : 0 ≤ op) (h1 : op ≤ 13) (hl : xs.length = arI op) (hv : vldL xs = true) : exprV (opTr op xs) = opT op (ptx xs) := by
  unfold exprV
  rw [opTr_vld h0 h1 hl hv]
  unfold opTr
  rw [txt]
  rfl
theorem opTr_wf {op : Int} {xs : List Tr} (hl : xs.length ≤ 2) (hw : wfL xs) : wf (opTr op xs) := by
  unfold opTr
  rw [wf]
  exact ⟨⟨by decide, by decide⟩, by omega, hw⟩
theorem few_cnt' {t : Tr} {m : Int} (h : 0 ≤ nod t m) (h1 : 0 ≤ m) (h2 : m ≤ 1000) (hv : vld t = true ∨ cal t = true) : cnt t ≤ 1000 := by
  have hs : sm t := hv.elim (vld_sm t) (cal_sm t)
  have := (nod_cnt t m hs (by omega) (by omega) h1).2.2 h
  omega
theorem parts2 {sz : Nat} {dr : Bool} {H : Ob} {z x y : List SV} {T : Nat → PV} {i j : Nat} (hi : T i = .st x) (hj : T j = .st y) (lx : x.length = sz) (ly : y.length = sz) : partsX sz dr H (List.replicate 2 z) (vpX T [(0, .t i), (1, .t j)]) = some ([x, y], H) := by
  simp only [vpX_cons, vpX_nil, partsX_cons, partsX_nil, show valX T (.t i) = .st x from hi, show valX T (.t j) = .st y from hj, row1_st lx, row1_st ly, bnd_some]
  rfl
set_option maxHeartbeats 4000000 in
theorem paren_law (op : Int) (hop : -9223372036854775808 ≤ op ∧ op ≤ 9223372036854775807) (a : Tr) (ha : wf a) (b : Tr) (hb : wf b) : ∃ H' n', runL EE 6 [.i64 op, .st a.row, .st b.row] (Ob.of []) 0 = some (.ret (.bool true), H', n') := by
  refine run_true ?_
  refine fn_run (R := fun v _ _ => v = .bool true) f6 (by simp) ?_
  unfold c6
  have la := row_len a
  have hta : List.take 9 a.row = a.row := List.take_of_length_le (by omega)
  have lb := row_len b
  have htb : List.take 9 b.row = b.row := List.take_of_length_le (by omega)
  simp only [go_sem, reduceIte, Nat.reduceEqDiff, Nat.reduceAdd, Nat.reduceLeDiff, Nat.reduceLT, hta]
  refine ⟨by omega, WC_p rfl (by rw [pure_st]; rfl) (few_ok a 60 ha) ?_⟩
  by_cases hfa : ¬ 0 ≤ nod a 60
  · have d : decide (0 ≤ nod a 60) = false := decide_eq_false hfa
    simp only [go_sem, reduceIte, Nat.reduceEqDiff, Nat.reduceAdd, Nat.reduceLeDiff, Nat.reduceLT, d, Bool.not_false]
    refine WC_p rfl rfl awake24 ?_
    simp only [go_sem, reduceIte, Nat.reduceEqDiff, Nat.reduceAdd, Nat.reduceLeDiff, Nat.reduceLT]
  have hfa := Decidable.not_not.1 hfa
  have da : decide (0 ≤ nod a 60) = true := decide_eq_true hfa
  simp only [go_sem, reduceIte, Nat.reduceEqDiff, Nat.reduceAdd, Nat.reduceLeDiff, Nat.reduceLT, da, Bool.not_true, htb]
  refine ⟨by omega, WC_p rfl (by rw [pure_st]; rfl) (few_ok b 60 hb) ?_⟩
  by_cases hfb : ¬ 0 ≤ nod b 60
  · have d : decide (0 ≤ nod b 60) = false := decide_eq_false hfb
    simp only [go_sem, reduceIte, Nat.reduceEqDiff, Nat.reduceAdd, Nat.reduceLeDiff, Nat.reduceLT, da, d, Bool.not_true, Bool.not_false]
    refine WC_p rfl rfl awake24 ?_
    simp only [go_sem, reduceIte, Nat.reduceEqDiff, Nat.reduceAdd, Nat.reduceLeDiff, Nat.reduceLT]
  have hfb := Decidable.not_not.1 hfb
  have db : decide (0 ≤ nod b 60) = true := decide_eq_true hfb
  simp only [go_sem, reduceIte, Nat.reduceEqDiff, Nat.reduceAdd, Nat.reduceLeDiff, Nat.reduceLT, da, db, Bool.not_true, hta]
  refine ⟨by omega, WC_p rfl (by rw [pure_st]; rfl) (valid_ok _ a (Nat.le_refl _) ha) ?_⟩
  cases hva : vld a with
  | false =>
    simp only [go_sem, reduceIte, Nat.reduceEqDiff, Nat.reduceAdd, Nat.reduceLeDiff, Nat.reduceLT, da, db, Bool.not_true, Bool.not_false]
    refine WC_p rfl rfl awake24 ?_
    simp only [go_sem, reduceIte, Nat.reduceEqDiff, Nat.reduceAdd, Nat.reduceLeDiff, Nat.reduceLT]
  | true =>
    simp only [go_sem, reduceIte, Nat.reduceEqDiff, Nat.reduceAdd, Nat.reduceLeDiff, Nat.reduceLT, da, db, Bool.not_true, htb]
    refine ⟨by omega, WC_p rfl (by rw [pure_st]; rfl) (valid_ok _ b (Nat.le_refl _) hb) ?_⟩
    cases hvb : vld b with
    | false =>
      simp only [go_sem, reduceIte, Nat.reduceEqDiff, Nat.reduceAdd, Nat.reduceLeDiff, Nat.reduceLT, da, db, Bool.not_true, Bool.not_false]
      refine WC_p rfl rfl awake24 ?_
      simp only [go_sem, reduceIte, Nat.reduceEqDiff, Nat.reduceAdd, Nat.reduceLeDiff, Nat.reduceLT]
    | true =>
      have hna := few_cnt hfa (by decide) (by decide) (.inl hva)
      have hnb := few_cnt hfb (by decide) (by decide) (.inl hvb)
      by_cases h0 : op < 0
      · have d0 : decide (op < 0) = true := decide_eq_true h0
        simp only [go_sem, reduceIte, Nat.reduceEqDiff, Nat.reduceAdd, Nat.reduceLeDiff, Nat.reduceLT, da, db, d0, Bool.not_true]
        refine WC_p rfl rfl awake24 ?_
        simp only [go_sem, reduceIte, Nat.reduceEqDiff, Nat.reduceAdd, Nat.reduceLeDiff, Nat.reduceLT]
      have d0 : decide (op < 0) = false := decide_eq_false h0
      by_cases h1 : 13 < op
      · have d1 : decide (13 < op) = true := decide_eq_true h1
        simp only [go_sem, reduceIte, Nat.reduceEqDiff, Nat.reduceAdd, Nat.reduceLeDiff, Nat.reduceLT, da, db, d0, d1, Bool.not_true]
        refine WC_p rfl rfl awake24 ?_
        simp only [go_sem, reduceIte, Nat.reduceEqDiff, Nat.reduceAdd, Nat.reduceLeDiff, Nat.reduceLT]
      have d1 : decide (13 < op) = false := decide_eq_false h1
      have ta := txt_len a ha hva
      have tb := txt_len b hb hvb
      have hwa : wfL [a] := by rw [wfL, wfL]; exact ⟨ha, trivial⟩
      have hvl : vldL [a] = true := by rw [vldL, vldL, hva]; rfl
      have hpa : ptx [a] = [(lvl a, txt a)] := by rw [ptx, ptx]
      have hca : cnt (opTr op [a]) = cnt a + 1 := by unfold opTr; rw [cnt, cntL, cntL]
      by_cases h3 : op = 3
      · have d3 : decide (op = 3) = true := decide_eq_true h3
        have e1 := expr_ok (opTr op [a]) (opTr_wf (by simp) hwa) (fun _ => by have := few_cnt' hfa (by decide) (by decide) (.inl hva); omega)
        rw [opTr_txt (by omega) (by omega) (by rw [h3]; rfl) hvl, hpa] at e1
        unfold opT at e1
        rw [if_neg (by omega), if_pos h3] at e1
        have e1 : calL EE 14 [.st (opTr op [a]).row] [] = some (.ret (.str (45 :: atP (lvl a, txt a) 8)), []) := e1
        simp only [go_sem, reduceIte, Nat.reduceEqDiff, Nat.reduceAdd, Nat.reduceLeDiff, Nat.reduceLT, da, db, d0, d1, d3, Bool.not_true, hta]
        rw [row1_st la, WX_some]
        refine ⟨by omega, WC_p rfl rfl (opTr_ok op [a]) ?_⟩
        simp only [go_sem, reduceIte, Nat.reduceEqDiff, Nat.reduceAdd, Nat.reduceLeDiff, Nat.reduceLT, hta]
        refine WC_p rfl (by rw [pure_st]; rfl) e1 ?_
        simp only [go_sem, reduceIte, Nat.reduceEqDiff, Nat.reduceAdd, Nat.reduceLeDiff, Nat.reduceLT, hta]
        refine ⟨by omega, WV_s (WC_p rfl (by rw [pure_st]; rfl) (in_ok a 8 ha hna hva) ?_)⟩
        have hs := atP_le (p := (lvl a, txt a)) (q := 8) (n := 6000000) (by show (txt a).length ≤ _; omega)
        generalize atP (lvl a, txt a) 8 = s at hs
        simp only [go_sem, reduceIte, Nat.reduceEqDiff, Nat.reduceAdd, Nat.reduceLeDiff, Nat.reduceLT, List.cons_append, List.nil_append, decide_true, List.length_append, List.length_cons, List.length_nil]
        refine ⟨by omega, by omega, ?_⟩
        refine WC_p rfl rfl awake24 ?_
        simp only [go_sem, reduceIte, Nat.reduceEqDiff, Nat.reduceAdd, Nat.reduceLeDiff, Nat.reduceLT, List.cons_append, List.nil_append, decide_true, List.length_append, List.length_cons, List.length_nil]
        omega
      have d3 : decide (op = 3) = false := decide_eq_false h3
      by_cases h13 : op = 13
      · have d13 : decide (op = 13) = true := decide_eq_true h13
        have e1 := expr_ok (opTr op [a]) (opTr_wf (by simp) hwa) (fun _ => by have := few_cnt' hfa (by decide) (by decide) (.inl hva); omega)
        rw [opTr_txt (by omega) (by omega) (by rw [h13]; rfl) hvl, hpa] at e1
        unfold opT at e1
        rw [if_pos h13, show lvO op = 3 by rw [h13]; rfl] at e1
        have e1 : calL EE 14 [.st (opTr op [a]).row] [] = some (.ret (.str ([78, 79, 84, 32] ++ atP (lvl a, txt a) 3)), []) := e1
        simp only [go_sem, reduceIte, Nat.reduceEqDiff, Nat.reduceAdd, Nat.reduceLeDiff, Nat.reduceLT, da, db, d0, d1, d3, d13, Bool.not_true, hta]
        rw [row1_st la, WX_some]
        refine ⟨by omega, WC_p rfl rfl (opTr_ok op [a]) ?_⟩
        simp only [go_sem, reduceIte, Nat.reduceEqDiff, Nat.reduceAdd, Nat.reduceLeDiff, Nat.reduceLT, hta]
        refine WC_p rfl (by rw [pure_st]; rfl) e1 ?_
        simp only [go_sem, reduceIte, Nat.reduceEqDiff, Nat.reduceAdd, Nat.reduceLeDiff, Nat.reduceLT, hta]
        refine ⟨by omega, WV_s (WC_p rfl (by rw [pure_st]; rfl) (in_ok a 3 ha hna hva) ?_)⟩
        have hs := atP_le (p := (lvl a, txt a)) (q := 3) (n := 6000000) (by show (txt a).length ≤ _; omega)
        generalize atP (lvl a, txt a) 3 = s at hs
        simp only [go_sem, reduceIte, Nat.reduceEqDiff, Nat.reduceAdd, Nat.reduceLeDiff, Nat.reduceLT, List.cons_append, List.nil_append, decide_true, List.length_append, List.length_cons, List.length_nil]
        refine ⟨by omega, by omega, ?_⟩
        refine WC_p rfl rfl awake24 ?_
        simp only [go_sem, reduceIte, Nat.reduceEqDiff, Nat.reduceAdd, Nat.reduceLeDiff, Nat.reduceLT, List.cons_append, List.nil_append, decide_true, List.length_append, List.length_cons, List.length_nil]
        omega
      have d13 : decide (op = 13) = false := decide_eq_false h13
      have hwb : wfL [a, b] := by rw [wfL, wfL, wfL]; exact ⟨ha, hb, trivial⟩
      have hvb' : vldL [a, b] = true := by rw [vldL, vldL, vldL, hva, hvb]; rfl
      have hpb : ptx [a, b] = [(lvl a, txt a), (lvl b, txt b)] := by rw [ptx, ptx, ptx]
      have hcb : cnt (opTr op [a, b]) = cnt a + cnt b + 1 := by unfold opTr; rw [cnt, cntL, cntL, cntL]; omega
      have hlen2 : ([a, b] : List Tr).length = arI op := by unfold arI; rw [if_neg (by omega)]; rfl
      have c1 := few_cnt' hfa (by decide) (by decide) (.inl hva)
      have c2 := few_cnt' hfb (by decide) (by decide) (.inl hvb)
      have e1 := expr_ok (opTr op [a, b]) (opTr_wf (by simp) hwb) (fun _ => by omega)
      rw [opTr_txt (by omega) (by omega) hlen2 hvb', hpb] at e1
      unfold opT at e1
      rw [if_neg h13, if_neg h3] at e1
      have e1 : calL EE 14 [.st (opTr op [a, b]).row] [] = some (.ret (.str (atP (lvl a, txt a) (if lvO op = 4 then 5 else lvO op) ++ [32] ++ symT.getD op.toNat [] ++ [32] ++ atP (lvl b, txt b) (lvO op + 1))), []) := e1
      have hsy := sym_le op.toNat
      have hr := lv_rng op
      have w1 := wrap_in (x := lvO op + 1) (by omega) (by omega)
      have lo := row_len (opTr op [a, b])
      have hto : List.take 9 (opTr op [a, b]).row = (opTr op [a, b]).row := List.take_of_length_le (by omega)
      have hlv := refLevel_ok (opTr op [a, b])
      have hlv : calL EE 26 [.st (opTr op [a, b]).row] [] = some (.ret (.i64 (lvO op)), []) := by
        rw [hlv]; rfl
      simp only [go_sem, reduceIte, Nat.reduceEqDiff, Nat.reduceAdd, Nat.reduceLeDiff, Nat.reduceLT, da, db, d0, d1, d3, d13, Bool.not_true, hta, htb]
      refine ⟨⟨by omega, by omega⟩, ?_⟩
      rw [rowsN, parts2 (x := a.row) (y := b.row) rfl rfl la lb, WX_some]
      simp only [go_sem, reduceIte, Nat.reduceEqDiff, Nat.reduceAdd, Nat.reduceLeDiff, Nat.reduceLT]
      refine WC_p rfl rfl (opTr_ok op [a, b]) ?_
      simp only [go_sem, reduceIte, Nat.reduceEqDiff, Nat.reduceAdd, Nat.reduceLeDiff, Nat.reduceLT, hto]
      have hsc : setCells [SV.int IntKind.i64 0, SV.int IntKind.i64 0, SV.int IntKind.i64 0, SV.str [], SV.str [], SV.str [], SV.int IntKind.i64 0, SV.int IntKind.i64 0, SV.nils] 0 (opTr op [a, b]).row = (opTr op [a, b]).row := setCells_all (by rw [lo]; rfl)
      simp only [hsc, hto]
      refine ⟨lo, by omega, WC_p rfl (by rw [pure_st]; rfl) hlv ?_⟩
      by_cases h4 : lvO op = 4
      · have d4 : decide (lvO op = 4) = true := decide_eq_true h4
        rw [if_pos h4] at e1
        simp only [go_sem, reduceIte, Nat.reduceEqDiff, Nat.reduceAdd, Nat.reduceLeDiff, Nat.reduceLT, d4, hto]
        refine ⟨by omega, WC_p rfl (by rw [pure_st]; rfl) e1 ?_⟩
        simp only [go_sem, reduceIte, Nat.reduceEqDiff, Nat.reduceAdd, Nat.reduceLeDiff, Nat.reduceLT, hta]
        refine ⟨by omega, WV_s (WC_p rfl (by rw [pure_st]; rfl) (in_ok a 5 ha hna hva) ?_)⟩
        have hs1 := atP_le (p := (lvl a, txt a)) (q := 5) (n := 6000000) (by show (txt a).length ≤ _; omega)
        have hs2 := atP_le (p := (lvl b, txt b)) (q := lvO op + 1) (n := 6000000) (by show (txt b).length ≤ _; omega)
        generalize atP (lvl a, txt a) 5 = s1 at hs1
        simp only [go_sem, reduceIte, Nat.reduceEqDiff, Nat.reduceAdd, Nat.reduceLeDiff, Nat.reduceLT, List.length_append, List.length_cons, List.length_nil]
        refine ⟨by omega, WC_p rfl rfl (refSym_ok op (by omega) (by omega)) ?_⟩
        simp only [go_sem, reduceIte, Nat.reduceEqDiff, Nat.reduceAdd, Nat.reduceLeDiff, Nat.reduceLT, htb, w1, List.length_append, List.length_cons, List.length_nil]
        refine ⟨by omega, by omega, WV_s (WC_p rfl (by rw [pure_st]; rfl) (in_ok b (lvO op + 1) hb hnb hvb) ?_)⟩
        generalize atP (lvl b, txt b) (lvO op + 1) = s2 at hs2
        simp only [go_sem, reduceIte, Nat.reduceEqDiff, Nat.reduceAdd, Nat.reduceLeDiff, Nat.reduceLT, decide_true, List.length_append, List.length_cons, List.length_nil]
        refine ⟨by omega, by omega, WC_p rfl rfl awake24 ?_⟩
        simp only [go_sem, reduceIte, Nat.reduceEqDiff, Nat.reduceAdd, Nat.reduceLeDiff, Nat.reduceLT, decide_true, List.length_append, List.length_cons, List.length_nil]
        omega
      · have d4 : decide (lvO op = 4) = false := decide_eq_false h4
        rw [if_neg h4] at e1
        simp only [go_sem, reduceIte, Nat.reduceEqDiff, Nat.reduceAdd, Nat.reduceLeDiff, Nat.reduceLT, d4, hto]
        refine ⟨by omega, WC_p rfl (by rw [pure_st]; rfl) e1 ?_⟩
        simp only [go_sem, reduceIte, Nat.reduceEqDiff, Nat.reduceAdd, Nat.reduceLeDiff, Nat.reduceLT, hta]
        refine ⟨by omega, WV_s (WC_p rfl (by rw [pure_st]; rfl) (in_ok a (lvO op) ha hna hva) ?_)⟩
        have hs1 := atP_le (p := (lvl a, txt a)) (q := (lvO op)) (n := 6000000) (by show (txt a).length ≤ _; omega)
        have hs2 := atP_le (p := (lvl b, txt b)) (q := lvO op + 1) (n := 6000000) (by show (txt b).length ≤ _; omega)
        generalize atP (lvl a, txt a) (lvO op) = s1 at hs1
        simp only [go_sem, reduceIte, Nat.reduceEqDiff, Nat.reduceAdd, Nat.reduceLeDiff, Nat.reduceLT, List.length_append, List.length_cons, List.length_nil]
        refine ⟨by omega, WC_p rfl rfl (refSym_ok op (by omega) (by omega)) ?_⟩
        simp only [go_sem, reduceIte, Nat.reduceEqDiff, Nat.reduceAdd, Nat.reduceLeDiff, Nat.reduceLT, htb, w1, List.length_append, List.length_cons, List.length_nil]
        refine ⟨by omega, by omega, WV_s (WC_p rfl (by rw [pure_st]; rfl) (in_ok b (lvO op + 1) hb hnb hvb) ?_)⟩
        generalize atP (lvl b, txt b) (lvO op + 1) = s2 at hs2
        simp only [go_sem, reduceIte, Nat.reduceEqDiff, Nat.reduceAdd, Nat.reduceLeDiff, Nat.reduceLT, decide_true, List.length_append, List.length_cons, List.length_nil]
        refine ⟨by omega, by omega, WC_p rfl rfl awake24 ?_⟩
        simp only [go_sem, reduceIte, Nat.reduceEqDiff, Nat.reduceAdd, Nat.reduceLeDiff, Nat.reduceLT, decide_true, List.length_append, List.length_cons, List.length_nil]
        omega
end Go.Vm
