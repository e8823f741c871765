/- Decode. -/
import Derived.Test.YtfgkhgkgaedcmaaGreatCbW
import Derived.Test.YtfgkhgkgaedcmaaGreatCbP
set_option linter.unusedVariables false
set_option linter.unusedSimpArgs false
set_option maxRecDepth 100000
namespace Go.Vm

def dCat (d : Dst) : Cat × Dst :=
  let a := dNum d
  let t := dList dTab a.2
  let w := dList dViw t.2
  (⟨.ofL t.1, .ofL w.1, a.1⟩, w.2)
theorem exa_lend {α : Type} {f : α → List SV} {l : List α} {lo e sz H n p} (h : Own lo e sz H n p (l.map f)) (hx : Exa p (l.map f)) : ∃ H', lend H p = some (.s ((Slc.ofL l).sv f), H') ∧ Own lo e sz H' n p (l.map f) ∧ ∀ j, Off p j → H' j = H j := by
  have hr := h.rows
  rcases h with ⟨rfl, h⟩ | ⟨rfl, h⟩ | ⟨id, ver, fz, h1, h2, rfl, h⟩
  · have : l = [] := by simpa using h
    subst this
    exact ⟨H, rfl, .inl ⟨rfl, rfl⟩, fun _ _ => rfl⟩
  · rcases hx with ⟨hx, _⟩ | ⟨_, _, _, _, hx⟩ <;> cases hx
  · rcases hx with ⟨hx, _⟩ | ⟨hx, _⟩
    · cases hx
    · cases l with
      | nil => exact absurd rfl hx
      | cons a l =>
        have hf : freeze1 H id = H.set id (.sarr e sz ver true true ((a :: l).map f)) := by simp only [freeze1, h]
        refine ⟨freeze1 H id, ?_, ?_, ?_⟩
        · simp only [lend, hr, bnd_some]
          rfl
        · rw [hf]
          exact .inr (.inr ⟨id, ver, true, h1, h2, rfl, if_pos rfl⟩)
        · intro j hj
          rw [hf]
          exact if_neg (hj _ _ _ _ rfl)
theorem encCat_len {c : Cat} (h : FewC c) : (encCat c).length ≤ 800000000 := by
  unfold encCat
  simp only [List.length_append]
  have := uvE_len c.next.toNat
  have := uvE_len c.tabs.l.length
  have := uvE_len c.views.l.length
  have h1 := tabs_len h c.tabs.l.length
  have h2 := views_len h c.views.l.length
  rw [List.take_length] at h1 h2
  omega
theorem decode (b : Slc UInt8) (hb : b.l.length ≤ 1000000000) (hF : FewC (dCat (b, true)).1) : ∃ v, calL EE 9 [.s (b.sv bRow)] [] = some (.ret v, []) ∧
    (((dCat (b, true)).2.2 = true ∧ ValidP (dCat (b, true)).1 ∧ encCat (dCat (b, true)).1 = b.l → v = .tuple [.st (dCat (b, true)).1.row, .i64 0]) ∧ (¬ ((dCat (b, true)).2.2 = true ∧ ValidP (dCat (b, true)).1 ∧ encCat (dCat (b, true)).1 = b.l) → v = .tuple [.st [.nils, .nils, .int .i64 0], .i64 12])) := by
  refine fn_ex f9 (by simp) ?_
  unfold c9
  have a1 := (goNum (b, true)).1
  have a2 := (goList goTab (dNum (b, true)).2).1
  have hb' : (b, true).1.l.length ≤ 1000000000 := hb
  simp only [go_sem, reduceIte, Nat.reduceEqDiff, Nat.reduceAdd, Nat.reduceLeDiff, Nat.reduceLT]
  refine WC_m (d := (b, true)) (id := 4) rfl rfl rfl (decNum (b, true) (by omega)) ren_s ?_
  simp only [go_sem, reduceIte, Nat.reduceEqDiff, Nat.reduceAdd, Nat.reduceLeDiff, Nat.reduceLT]
  refine WC_l (id := 4) rfl rfl rfl (lisTab (dNum (b, true)).2 (by omega)) (by omega) ?_
  intro p1 H1 o1 x1 hd1 hf1
  obtain ⟨c1, c2⟩ := exa_cell x1
  have hB1 : H1 9 = .box 25 [.s .nils, .s .nils, .i64 (dNum (b, true)).1] := hf1 9 (by omega) (by omega)
  have hR1 : H1 0 = .box 25 (List.map PV.s [.nils, .nils, .int .i64 0]) := hf1 0 (by omega) (by omega)
  simp only [go_sem, reduceIte, Nat.reduceEqDiff, Nat.reduceAdd, Nat.reduceLeDiff, Nat.reduceLT, hB1, storeB_p c1 c2, List.length_cons, List.length_nil, Nat.zero_add]
  refine WC_l (n := 20) (id := 4) rfl rfl ((if_neg (by omega)).trans hd1) (lisViw _ (by omega)) (by omega) ?_
  intro p2 H2 o2 x2 hd2 hf2
  obtain ⟨c3, c4⟩ := exa_cell x2
  have hB2 : H2 9 = .box 25 [p1, .s .nils, .i64 (dNum (b, true)).1] := (hf2 9 (by omega) (by omega)).trans (if_pos rfl)
  have hR2 : H2 0 = .box 25 (List.map PV.s [.nils, .nils, .int .i64 0]) := (hf2 0 (by omega) (by omega)).trans ((if_neg (by omega)).trans hR1)
  have o12 := o1.kept (n' := 15) (H' := H2) (Nat.le_refl _) fun j hj hj2 => (hf2 j (by omega) (by omega)).trans (if_neg (by omega))
  simp only [go_sem, reduceIte, Nat.reduceEqDiff, Nat.reduceAdd, Nat.reduceLeDiff, Nat.reduceLT, hB2, storeB_p c3 c4, List.length_cons, List.length_nil, Nat.zero_add, loadB_box, loadP_t, List.drop_zero, List.take_succ_cons, List.take_zero, List.set_cons_succ, List.set_cons_zero, Nat.le_refl]
  generalize hbx : HObj.box 25 _ = bx
  generalize hH3 : H2.set 9 bx = H3
  have f3 : ∀ j, j ≠ 9 → H3 j = H2 j := fun j h => by rw [← hH3]; exact if_neg h
  have hB3 : H3 9 = bx := by rw [← hH3]; exact if_pos rfl
  have o13 := o12.kept (n' := 15) (H' := H3) (Nat.le_refl _) fun j hj hj2 => f3 j (by omega)
  have o23 := o2.kept (n' := 21) (H' := H3) (Nat.le_refl _) fun j hj hj2 => f3 j (by omega)
  obtain ⟨H4, l1, o14, g1⟩ := exa_lend o13 x1
  have o24 := o23.kept (n' := 21) (H' := H4) (Nat.le_refl _) fun j hj hj2 => g1 j (o13.off (.inr (by omega)))
  obtain ⟨H5, l2, o25, g2⟩ := exa_lend o24 x2
  have o15 := o14.kept (n' := 15) (H' := H5) (Nat.le_refl _) fun j hj hj2 => g2 j (o24.off (.inl (by omega)))
  have f5 : ∀ j, j < 14 → H5 j = H3 j := fun j hj => (g2 j (o24.off (.inl (by omega)))).trans (g1 j (o13.off (.inl (by omega))))
  have hlend : lendL H3 [.agg [p1, p2, .i64 (dNum (b, true)).1]] = some ([.st (dCat (b, true)).1.row], H5) := by
    simp only [lendL, lend, l1, l2, bnd_some]
    rfl
  have hR5 : H5 0 = .box 25 (List.map PV.s [.nils, .nils, .int .i64 0]) := (f5 0 (by omega)).trans ((f3 0 (by omega)).trans hR2)
  have hd5 : H5 4 = dbox (dCat (b, true)).2 := (f5 4 (by omega)).trans ((f3 4 (by omega)).trans hd2)
  have hB5 : H5 9 = .box 25 [p1, p2, .i64 (dNum (b, true)).1] := (f5 9 (by omega)).trans (hB3.trans hbx.symm)
  have hidb : idbL [.st (dCat (b, true)).1.row] = 0 := by simp only [idbL, idb_st]; rfl
  clear hbx
  have e15 := exa_own (m := 0) (f := Tab.row) o15 x1 (by omega)
  have e25 := exa_own (m := 0) (f := Viw.row) o25 x2 (by omega)
  have hown : ∀ X : HObj, ownL 0 (H5.set 0 X) [p1, p2, .i64 (dNum (b, true)).1] = some ((dCat (b, true)).1.row.map PV.s) := fun X => by
    have k1 := exa_own (m := 0) (f := Tab.row) (o15.kept (n' := 15) (H' := H5.set 0 X) (Nat.le_refl _) fun j hj _ => if_neg (by omega)) x1 (by omega)
    have k2 := exa_own (m := 0) (f := Viw.row) (o25.kept (n' := 21) (H' := H5.set 0 X) (Nat.le_refl _) fun j hj _ => if_neg (by omega)) x2 (by omega)
    simp only [ownL, k1, k2, bnd_some]
    rfl
  have hL := encCat_len hF
  unfold dbox at hd5
  by_cases hV : ValidP (dCat (b, true)).1
  · obtain ⟨v, e1, s, rfl, e2⟩ := encOk _ hF hV
    refine WC_lend rfl hlend hidb (fun h => by cases h) e1 ?_
    rw [← e2] at hL
    rw [← e2]
    cases hok : (dCat (b, true)).2.2 with
    | false =>
      simp only [go_sem, reduceIte, Nat.reduceEqDiff, Nat.reduceAdd, Nat.reduceLeDiff, Nat.reduceLT, extractV, List.getElem?_cons_succ, List.getElem?_cons_zero, hd5, nilc, hok, Bool.not_false, Bool.true_or, Bool.not_true, Bool.false_eq_true, hR5, false_and]
      exact fun h => h.elim
    | true =>
      simp only [go_sem, reduceIte, Nat.reduceEqDiff, Nat.reduceAdd, Nat.reduceLeDiff, Nat.reduceLT, extractV, List.getElem?_cons_succ, List.getElem?_cons_zero, hd5, nilc, hok, decide_true, Bool.not_true, Bool.or_false, Bool.not_false]
      refine WC_p rfl rfl (bytesEq s b (by omega) (by omega)) ?_
      by_cases he : s.l = b.l
      · have hd : (!decide (s.l = b.l)) = false := by rw [decide_eq_true he]; rfl
        simp only [go_sem, reduceIte, Nat.reduceEqDiff, Nat.reduceAdd, Nat.reduceLeDiff, Nat.reduceLT, hd, Bool.false_eq_true, hR5, hB5, loadB_box, loadP_t, List.length_cons, List.length_nil, Nat.zero_add, List.drop_zero, List.take_succ_cons, List.take_zero, Nat.le_refl, storeB_box, PV.cells, List.map_cons, List.map_nil]
        refine ⟨by simp only [List.all_cons, List.all_nil, c2, c4]; rfl, ?_⟩
        rw [show own 0 _ (PV.agg [p1, p2, .i64 (dNum (b, true)).1]) = some (.st (dCat (b, true)).1.row) from by
          rw [own, hown]
          rfl]
        simp only [bnd_some, WX_some]
        exact ⟨fun _ => trivial, fun h => (h ⟨hV, he⟩).elim⟩
      · have hd : (!decide (s.l = b.l)) = true := by rw [decide_eq_false he]; rfl
        simp only [go_sem, reduceIte, Nat.reduceEqDiff, Nat.reduceAdd, Nat.reduceLeDiff, Nat.reduceLT, hd, hR5, he, and_false]
        exact fun h => h.elim
  · refine WC_lend rfl hlend hidb (fun h => by cases h) (encNo _ hF hV) ?_
    have h10 : (!decide ((1 : Int) = 0)) = true := by decide
    simp only [go_sem, reduceIte, Nat.reduceEqDiff, Nat.reduceAdd, Nat.reduceLeDiff, Nat.reduceLT, extractV, List.getElem?_cons_succ, List.getElem?_cons_zero, hd5, nilc, h10, Bool.or_true, Bool.not_true, Bool.false_eq_true, hR5]
    exact fun h => (hV h.2.1).elim
end Go.Vm
