/- The laws CatalogEncode and CatalogDecode. -/
import Derived.Test.YtfgkhgkgaedcmaaGreatCbYb
import Derived.Test.YtfgkhgkgaedcmaaGreatCbQ
set_option linter.unusedVariables false
set_option linter.unusedSimpArgs false
set_option maxRecDepth 100000
namespace Go.Vm

theorem tfR {c : Cat} (h : ValidP c) : tf (ValidR c) = true := tf_of ((valid_iff c).1 h)
theorem lawEnc (c : Cat) (h9 : calL EE 5 [] [] = some (.ret (.bool true), [])) : ∃ H' n', runL EE 3 [.st c.row] (Ob.of []) 0 = some (.ret (.bool true), H', n') := by
  suffices h : ∃ v H1 n1, runL EE 3 [.st c.row] (Ob.of []) 0 = some (.ret v, H1, n1) ∧ v = .bool true by
    obtain ⟨v, H1, n1, h1, rfl⟩ := h
    exact ⟨H1, n1, h1⟩
  refine fn_run (R := fun v _ _ => v = .bool true) f3 (by simp) ?_
  unfold c3
  simp only [go_sem, reduceIte, Nat.reduceEqDiff, Nat.reduceAdd, Nat.reduceLeDiff, Nat.reduceLT, Cat.row]
  refine WC_p rfl rfl h9 ?_
  simp only [go_sem, reduceIte, Nat.reduceEqDiff, Nat.reduceAdd, Nat.reduceLeDiff, Nat.reduceLT, Cat.row]
  obtain ⟨v, hv, q, rfl, hb⟩ := t10 c
  refine WC_p rfl rfl hv ?_
  simp only [go_sem, reduceIte, Nat.reduceEqDiff, Nat.reduceAdd, Nat.reduceLeDiff, Nat.reduceLT, Cat.row]
  cases q with
  | false =>
    simp only [go_sem, reduceIte, Nat.reduceEqDiff, Nat.reduceAdd, Nat.reduceLeDiff, Nat.reduceLT]
    refine WC_p rfl rfl h9 ?_
    simp only [go_sem, reduceIte, Nat.reduceEqDiff, Nat.reduceAdd, Nat.reduceLeDiff, Nat.reduceLT]
  | true =>
    have hc := hb rfl
    simp only [go_sem, reduceIte, Nat.reduceEqDiff, Nat.reduceAdd, Nat.reduceLeDiff, Nat.reduceLT]
    by_cases hV : ValidP c
    · obtain ⟨v, e1, s, rfl, e2⟩ := encOk c hc hV
      refine WC_p rfl rfl e1 ?_
      simp only [go_sem, reduceIte, Nat.reduceEqDiff, Nat.reduceAdd, Nat.reduceLeDiff, Nat.reduceLT, Cat.row, extractV, List.getElem?_cons_succ, List.getElem?_cons_zero]
      refine WC_p rfl rfl (t12 c hc) ?_
      have hL := encCat_len hc
      rw [← e2] at hL
      obtain ⟨r1, r2, r3⟩ := rdsCat hc hV (s, true) [] rfl (by rw [e2, List.append_nil])
      obtain ⟨w, d1, d2, _⟩ := decode s (by omega) (by rw [r1]; exact nCat_few hc)
      have d3 := d2 ⟨r3, by rw [r1]; exact nCat_ok hV, by rw [r1, nCat_enc, e2]⟩
      rw [r1] at d3
      subst d3
      simp only [go_sem, reduceIte, Nat.reduceEqDiff, Nat.reduceAdd, Nat.reduceLeDiff, Nat.reduceLT, tfR hV]
      refine WC_p rfl rfl d1 ?_
      simp only [go_sem, reduceIte, Nat.reduceEqDiff, Nat.reduceAdd, Nat.reduceLeDiff, Nat.reduceLT, Cat.row, extractV, List.getElem?_cons_succ, List.getElem?_cons_zero, decide_true]
      obtain ⟨w2, g1, s2, rfl, g2⟩ := refEnc c hc hV
      refine WC_p rfl rfl g1 ?_
      simp only [go_sem, reduceIte, Nat.reduceEqDiff, Nat.reduceAdd, Nat.reduceLeDiff, Nat.reduceLT, decide_true]
      refine WC_p rfl rfl (sameSame s s2 (by rw [e2, g2]) (by omega)) ?_
      simp only [go_sem, reduceIte, Nat.reduceEqDiff, Nat.reduceAdd, Nat.reduceLeDiff, Nat.reduceLT, decide_true]
      refine WC_p rfl rfl (sameC c (nCat c) (nCat_same c) hc) ?_
      simp only [go_sem, reduceIte, Nat.reduceEqDiff, Nat.reduceAdd, Nat.reduceLeDiff, Nat.reduceLT, decide_true]
    · refine WC_p rfl rfl (encNo c hc hV) ?_
      simp only [go_sem, reduceIte, Nat.reduceEqDiff, Nat.reduceAdd, Nat.reduceLeDiff, Nat.reduceLT, Cat.row, extractV, List.getElem?_cons_succ, List.getElem?_cons_zero]
      refine WC_p rfl rfl (t12 c hc) ?_
      have hR : tf (ValidR c) = false := tf_not fun h => hV ((valid_iff c).2 h)
      simp only [go_sem, reduceIte, Nat.reduceEqDiff, Nat.reduceAdd, Nat.reduceLeDiff, Nat.reduceLT, hR, decide_true, Bool.and_self]
theorem lawDec (b : Slc UInt8) (h9 : calL EE 5 [] [] = some (.ret (.bool true), [])) : ∃ H' n', runL EE 4 [.s (b.sv bRow)] (Ob.of []) 0 = some (.ret (.bool true), H', n') := by
  suffices h : ∃ v H1 n1, runL EE 4 [.s (b.sv bRow)] (Ob.of []) 0 = some (.ret v, H1, n1) ∧ v = .bool true by
    obtain ⟨v, H1, n1, h1, rfl⟩ := h
    exact ⟨H1, n1, h1⟩
  refine fn_run (R := fun v _ _ => v = .bool true) f4 (by simp) ?_
  unfold c4
  simp only [go_sem, reduceIte, Nat.reduceEqDiff, Nat.reduceAdd, Nat.reduceLeDiff, Nat.reduceLT]
  refine WC_p rfl rfl h9 ?_
  simp only [go_sem, reduceIte, Nat.reduceEqDiff, Nat.reduceAdd, Nat.reduceLeDiff, Nat.reduceLT]
  split
  · refine WC_p rfl rfl h9 ?_
    simp only [go_sem, reduceIte, Nat.reduceEqDiff, Nat.reduceAdd, Nat.reduceLeDiff, Nat.reduceLT]
  · rename_i h
    rw [decide_eq_true_eq] at h
    have hF := short_cat (b, true) (by show b.l.length ≤ 400; omega)
    obtain ⟨w, d1, d2, d3⟩ := decode b (by omega) hF
    refine WC_p rfl rfl d1 ?_
    by_cases hP : (dCat (b, true)).2.2 = true ∧ ValidP (dCat (b, true)).1 ∧ encCat (dCat (b, true)).1 = b.l
    · have := d2 hP
      subst this
      obtain ⟨hok, hV, he⟩ := hP
      clear d1 d2 d3
      generalize (dCat (b, true)).1 = c at hF hV he
      simp only [go_sem, reduceIte, Nat.reduceEqDiff, Nat.reduceAdd, Nat.reduceLeDiff, Nat.reduceLT, Cat.row, extractV, List.getElem?_cons_succ, List.getElem?_cons_zero, decide_true, Bool.not_true, Bool.false_eq_true]
      refine WC_p rfl rfl (t12 c hF) ?_
      simp only [go_sem, reduceIte, Nat.reduceEqDiff, Nat.reduceAdd, Nat.reduceLeDiff, Nat.reduceLT, Cat.row, tfR hV]
      obtain ⟨w2, g1, s2, rfl, g2⟩ := refEnc c hF hV
      refine WC_p rfl rfl g1 ?_
      simp only [go_sem, reduceIte, Nat.reduceEqDiff, Nat.reduceAdd, Nat.reduceLeDiff, Nat.reduceLT]
      have hL := encCat_len hF
      refine WC_p rfl rfl (sameSame s2 b (by rw [g2, he]) (by rw [g2]; omega)) ?_
      simp only [go_sem, reduceIte, Nat.reduceEqDiff, Nat.reduceAdd, Nat.reduceLeDiff, Nat.reduceLT]
    · have := d3 hP
      subst this
      simp only [go_sem, reduceIte, Nat.reduceEqDiff, Nat.reduceAdd, Nat.reduceLeDiff, Nat.reduceLT, extractV, List.getElem?_cons_succ, List.getElem?_cons_zero, decide_true, bad12]
      refine WC_p rfl rfl (sameC ⟨.nil, .nil, 0⟩ ⟨.nil, .nil, 0⟩ ⟨rfl, rfl, nofun, rfl⟩ ⟨Nat.zero_le _, Nat.zero_le _, nofun, nofun⟩) ?_
      simp only [go_sem, reduceIte, Nat.reduceEqDiff, Nat.reduceAdd, Nat.reduceLeDiff, Nat.reduceLT, decide_true]
end Go.Vm
