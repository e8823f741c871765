/- What the program says is defined. -/
import Derived.Test.YtfgkhgkgaedcmaaGreatCbD
set_option linter.unusedVariables false
set_option linter.unusedSimpArgs false
set_option maxRecDepth 100000
namespace Go.Vm

theorem t36 (c : Cat) (hc : FewC c) : ∃ v, calL EE 48 [.st c.row] [] = some (.ret v, []) ∧ ∃ (s1 : Slc (List UInt8)) (s2 : Slc Int), v = .tuple [.s (s1.sv strRow), .s (s2.sv intRow)] ∧ s1.l = names c ∧ s2.l = ids c := by
  refine fn_ex f48 (by simp) ?_
  unfold c48
  simp only [go_sem, reduceIte, Nat.reduceEqDiff, Nat.reduceAdd, Nat.reduceLeDiff, Nat.reduceLT, Cat.row]
  have hb0 := hc.tabs
  have hb1 := hc.views
  refine WP_scan rfl 13 c.tabs.l.length (fun j => True) (fun j T H n => H 0 = .box 25 (c.row.map .s) ∧ 1 ≤ n ∧ Own 1 9 1 H n (T 2) (((c.tabs.l.take j).flatMap tnames).map strRow) ∧ Own 1 3 1 H n (T 3) (((c.tabs.l.take j).flatMap tids).map intRow) ∧ Dis (T 2) (T 3)) rfl ⟨rfl, by omega, .nil, .nil, .s⟩ ?_ ?_
  · rintro j T' H' n' hlt hf hi ⟨hH, hn, ho, hq, hd⟩ _
    have hb : T' 1 = .ptr 0 0 := hf 1 rfl
    have h11 : T' 11 = .s (c.tabs.sv Tab.row) := hf 11 rfl
    have h12 : T' 12 = .i64 c.tabs.l.length := hf 12 rfl
    have hbound := tnames_flat hc.tab j (by omega)
    have hbound2 := tids_flat hc.tab j (by omega)
    have hft := hc.tab j hlt
    clear hf
    simp only [go_sem, reduceIte, Nat.reduceEqDiff, Nat.reduceAdd, Nat.reduceLeDiff, Nat.reduceLT, hb, h11, h12, hi, hH, Int.ofNat_lt, hlt, wrap_succ (show j < 4611686018427387904 by omega), decide_true, ia_tab, Tab.row, Cat.row]
    generalize ht : c.tabs.l.getD j default = t at hft
    generalize hHb : H'.set _ _ = H0
    have hA : H0 0 = .box 25 (c.row.map .s) := by rw [← hHb, set_at, if_neg (by omega), hH]
    have hB : H0 (n' + 1 + 2) = .box 47 (t.row.map .s) := by rw [← hHb, set_at, if_pos rfl]; rfl
    have hlo : ∀ x, 1 ≤ x → x < n' → H0 x = H' x := fun x _ hx => by rw [← hHb, set_at, if_neg (by omega)]
    replace ho := ho.kept (H' := H0) (Nat.le_refl _) hlo
    replace hq := hq.kept (H' := H0) (Nat.le_refl _) hlo
    clear hHb hH hlo
    have hoo := ho
    refine WX_app ho rows_slice (by simp) (by simp only [List.length_append, List.length_map, List.length_cons, List.length_nil, List.length_take]; omega) (by omega) (by omega) ?_
    intro p1 H1 ho1 hfr1 hof1
    have hA1 : H1 0 = .box 25 (c.row.map .s) := by rw [hfr1 0 (by omega) (ho.off (by omega)), hA]
    have hB1 : H1 (n' + 1 + 2) = .box 47 (t.row.map .s) := by rw [hfr1 _ (by omega) (ho.off (by omega)), hB]
    replace hq := hq.other hd (by omega) (Nat.le_refl _) hfr1
    replace hd := hd.next hq (by omega) hof1
    have hp1 : Off p1 (n' + 1 + 2) := hof1 _ (by omega) (ho.off (by omega))
    clear hfr1 hof1 ho hA hB
    simp only [go_sem, reduceIte, Nat.reduceEqDiff, Nat.reduceAdd, Nat.reduceLeDiff, Nat.reduceLT, hB1, Tab.row]
    refine WX_app hq rows_slice (by simp) (by simp only [List.length_append, List.length_map, List.length_cons, List.length_nil, List.length_take]; omega) (by omega) (by omega) ?_
    intro q1 H2 hq1 hfr2 hof2
    have hA2 : H2 0 = .box 25 (c.row.map .s) := by rw [hfr2 0 (by omega) (hq.off (by omega)), hA1]
    have hB2 : H2 (n' + 1 + 2) = .box 47 (t.row.map .s) := by rw [hfr2 _ (by omega) (hq.off (by omega)), hB1]
    replace ho1 := ho1.other hd.symm (by omega) (Nat.le_refl _) hfr2
    replace hd := (hd.symm.next ho1 (by omega) hof2).symm
    clear hfr2 hof2 hq hA1 hB1
    simp only [go_sem, reduceIte, Nat.reduceEqDiff, Nat.reduceAdd, Nat.reduceLeDiff, Nat.reduceLT, hB2, Tab.row]
    refine ⟨all2 (held_app (p := T' 2) rfl rfl rfl hoo (hoo.off (by omega)) (by omega)) (held_app (p := T' 2) rfl rfl rfl hoo (hoo.off (by omega)) (by omega)), ?_⟩
    refine WP_scan rfl 30 t.idx.l.length (fun j => True) (fun k T H n => H 0 = .box 25 (c.row.map .s) ∧ n' + 10 ≤ n ∧ Own 1 9 1 H n (T 2) ((((c.tabs.l.take j).flatMap tnames) ++ t.name :: (t.idx.l.take k).map (·.name)).map strRow) ∧ Own 1 3 1 H n (T 3) ((((c.tabs.l.take j).flatMap tids) ++ t.id :: (t.idx.l.take k).map (·.id)).map intRow) ∧ Dis (T 2) (T 3)) rfl ⟨hA2, by omega, ?_, ?_, hd⟩ ?_ ?_
    · have := ho1.kept (n' := n' + 1 + 2 + 1 + 1 + 3 + 1 + 1 + 3 + 1 + 1 + 2 + 4) (by omega) (fun _ _ _ => rfl)
      simp only [List.map_append, List.map_cons, List.map_nil, List.append_assoc, List.cons_append, List.nil_append, List.flatMap_append, List.flatMap_cons, List.flatMap_nil, List.append_nil, List.take_zero, strRow] at this ⊢
      exact this
    · have := hq1.kept (n' := n' + 1 + 2 + 1 + 1 + 3 + 1 + 1 + 3 + 1 + 1 + 2 + 4) (by omega) (fun _ _ _ => rfl)
      simp only [List.map_append, List.map_cons, List.map_nil, List.append_assoc, List.cons_append, List.nil_append, List.flatMap_append, List.flatMap_cons, List.flatMap_nil, List.append_nil, List.take_zero, intRow] at this ⊢
      exact this
    · rintro k T2 H3 n2 hlt2 hf2 hi2 ⟨hH2, hn2, ho2, hq2, hd2⟩ _
      have g1 : T2 1 = .ptr 0 0 := (hf2 1 rfl).trans hb
      have g28 : T2 28 = .s (t.idx.sv Idx.row) := hf2 28 rfl
      have g29 : T2 29 = .i64 t.idx.l.length := hf2 29 rfl
      clear hf2
      have := hft.idx
      simp only [go_sem, reduceIte, Nat.reduceEqDiff, Nat.reduceAdd, Nat.reduceLeDiff, Nat.reduceLT, g1, g28, g29, hi2, hH2, Int.ofNat_lt, hlt2, wrap_succ (show k < 4611686018427387904 by omega), decide_true, ia_idx, Idx.row]
      generalize hx : t.idx.l.getD k default = x
      generalize hHb : H3.set _ _ = H4
      have hA4 : H4 0 = .box 25 (c.row.map .s) := by rw [← hHb, set_at, if_neg (by omega), hH2]
      have hB4 : H4 (n2 + 1 + 2) = .box 51 (x.row.map .s) := by rw [← hHb, set_at, if_pos rfl]; rfl
      have hlo : ∀ x, 1 ≤ x → x < n2 → H4 x = H3 x := fun x _ hx => by rw [← hHb, set_at, if_neg (by omega)]
      replace ho2 := ho2.kept (H' := H4) (Nat.le_refl _) hlo
      replace hq2 := hq2.kept (H' := H4) (Nat.le_refl _) hlo
      clear hHb hH2 hlo
      have hoo := ho2
      refine WX_app ho2 rows_slice (by simp) (by simp only [List.length_append, List.length_map, List.length_cons, List.length_nil, List.length_take]; omega) (by omega) (by omega) ?_
      intro p3 H5 ho3 hfr3 hof3
      have hA5 : H5 0 = .box 25 (c.row.map .s) := by rw [hfr3 0 (by omega) (ho2.off (by omega)), hA4]
      have hB5 : H5 (n2 + 1 + 2) = .box 51 (x.row.map .s) := by rw [hfr3 _ (by omega) (ho2.off (by omega)), hB4]
      replace hq2 := hq2.other hd2 (by omega) (Nat.le_refl _) hfr3
      replace hd2 := hd2.next hq2 (by omega) hof3
      clear hfr3 hof3 ho2 hA4 hB4
      simp only [go_sem, reduceIte, Nat.reduceEqDiff, Nat.reduceAdd, Nat.reduceLeDiff, Nat.reduceLT, hB5, Idx.row]
      refine WX_app hq2 rows_slice (by simp) (by simp only [List.length_append, List.length_map, List.length_cons, List.length_nil, List.length_take]; omega) (by omega) (by omega) ?_
      intro q3 H6 hq3 hfr4 hof4
      have hA6 : H6 0 = .box 25 (c.row.map .s) := by rw [hfr4 0 (by omega) (hq2.off (by omega)), hA5]
      replace ho3 := ho3.other hd2.symm (by omega) (Nat.le_refl _) hfr4
      replace hd2 := (hd2.symm.next ho3 (by omega) hof4).symm
      clear hfr4 hof4 hq2 hA5 hB5
      simp only [go_sem, reduceIte, Nat.reduceEqDiff, Nat.reduceAdd, Nat.reduceLeDiff, Nat.reduceLT, hi2, wrap_succ (show k < 4611686018427387904 by omega)]
      refine ⟨all2 (held_app (p := T2 2) rfl rfl rfl hoo (hoo.off (by omega)) (by omega)) (held_app (p := T2 2) rfl rfl rfl hoo (hoo.off (by omega)) (by omega)), hA6, by omega, ?_, ?_, hd2⟩
      · have := ho3.kept (n' := n2 + 1 + 2 + 1 + 1 + 3 + 1 + 1 + 3 + 1 + 1 + 2 + 2) (by omega) (fun _ _ _ => rfl)
        rw [take_step default hlt2, hx]
        simp only [List.map_append, List.map_cons, List.map_nil, List.append_assoc, List.cons_append, List.nil_append, List.flatMap_append, List.flatMap_cons, List.flatMap_nil, List.append_nil, List.take_zero, strRow] at this ⊢
        exact this
      · have := hq3.kept (n' := n2 + 1 + 2 + 1 + 1 + 3 + 1 + 1 + 3 + 1 + 1 + 2 + 2) (by omega) (fun _ _ _ => rfl)
        rw [take_step default hlt2, hx]
        simp only [List.map_append, List.map_cons, List.map_nil, List.append_assoc, List.cons_append, List.nil_append, List.flatMap_append, List.flatMap_cons, List.flatMap_nil, List.append_nil, List.take_zero, intRow] at this ⊢
        exact this
    · rintro T2 H3 n2 hf2 hi2 ⟨hH2, hn2, ho2, hq2, hd2⟩ _
      have g1 : T2 1 = .ptr 0 0 := (hf2 1 rfl).trans hb
      have g13 : T2 13 = .i64 j := (hf2 13 rfl).trans hi
      have g29 : T2 29 = .i64 t.idx.l.length := hf2 29 rfl
      clear hf2
      simp only [go_sem, reduceIte, Nat.reduceEqDiff, Nat.reduceAdd, Nat.reduceLeDiff, Nat.reduceLT, g1, g13, g29, hi2, hH2, Int.lt_irrefl, decide_false, wrap_succ (show j < 4611686018427387904 by omega)]
      refine ⟨rfl, ?_, ?_, hd2⟩
      · have := ho2.kept (n' := n2 + 1 + 2) (by omega) (fun _ _ _ => rfl)
        rw [take_step default hlt, ht]
        rw [List.take_of_length_le (Nat.le_refl _)] at this
        simp only [List.map_append, List.map_cons, List.map_nil, List.append_assoc, List.cons_append, List.nil_append, List.flatMap_append, List.flatMap_cons, List.flatMap_nil, List.append_nil, List.take_zero, tnames, strRow] at this ⊢
        exact this
      · have := hq2.kept (n' := n2 + 1 + 2) (by omega) (fun _ _ _ => rfl)
        rw [take_step default hlt, ht]
        rw [List.take_of_length_le (Nat.le_refl _)] at this
        simp only [List.map_append, List.map_cons, List.map_nil, List.append_assoc, List.cons_append, List.nil_append, List.flatMap_append, List.flatMap_cons, List.flatMap_nil, List.append_nil, List.take_zero, tids, intRow] at this ⊢
        exact this
  · rintro T' H' n' hf hi ⟨hH, hn, ho, hq, hd⟩ _
    have hb : T' 1 = .ptr 0 0 := hf 1 rfl
    have h12 : T' 12 = .i64 c.tabs.l.length := hf 12 rfl
    have hbound := tnames_flat hc.tab c.tabs.l.length (Nat.le_refl _)
    have hbound2 := tids_flat hc.tab c.tabs.l.length (Nat.le_refl _)
    rw [List.take_of_length_le (Nat.le_refl _)] at hbound hbound2 ho hq
    clear hf
    simp only [go_sem, reduceIte, Nat.reduceEqDiff, Nat.reduceAdd, Nat.reduceLeDiff, Nat.reduceLT, hb, h12, hi, hH, Int.lt_irrefl, decide_false, Cat.row]
    refine WP_scan rfl 49 c.views.l.length (fun j => True) (fun j T H n => H 0 = .box 25 (c.row.map .s) ∧ 1 ≤ n ∧ Own 1 9 1 H n (T 2) ((c.tabs.l.flatMap tnames ++ (c.views.l.take j).map (·.name)).map strRow) ∧ Own 1 3 1 H n (T 3) ((c.tabs.l.flatMap tids ++ (c.views.l.take j).map (·.id)).map intRow) ∧ Dis (T 2) (T 3)) rfl ⟨hH, by omega, ?_, ?_, hd⟩ ?_ ?_
    · have := ho.kept (n' := n' + 1 + 4) (by omega) (fun _ _ _ => rfl)
      simp only [List.map_append, List.map_cons, List.map_nil, List.append_assoc, List.cons_append, List.nil_append, List.flatMap_append, List.flatMap_cons, List.flatMap_nil, List.append_nil, List.take_zero] at this ⊢
      exact this
    · have := hq.kept (n' := n' + 1 + 4) (by omega) (fun _ _ _ => rfl)
      simp only [List.map_append, List.map_cons, List.map_nil, List.append_assoc, List.cons_append, List.nil_append, List.flatMap_append, List.flatMap_cons, List.flatMap_nil, List.append_nil, List.take_zero] at this ⊢
      exact this
    · rintro k T2 H3 n2 hlt2 hf2 hi2 ⟨hH2, hn2, ho2, hq2, hd2⟩ _
      have g1 : T2 1 = .ptr 0 0 := (hf2 1 rfl).trans hb
      have g28 : T2 47 = .s (c.views.sv Viw.row) := hf2 47 rfl
      have g29 : T2 48 = .i64 c.views.l.length := hf2 48 rfl
      clear hf2
      simp only [go_sem, reduceIte, Nat.reduceEqDiff, Nat.reduceAdd, Nat.reduceLeDiff, Nat.reduceLT, g1, g28, g29, hi2, hH2, Int.ofNat_lt, hlt2, wrap_succ (show k < 4611686018427387904 by omega), decide_true, ia_viw, Viw.row]
      generalize hx : c.views.l.getD k default = x
      generalize hHb : H3.set _ _ = H4
      have hA4 : H4 0 = .box 25 (c.row.map .s) := by rw [← hHb, set_at, if_neg (by omega), hH2]
      have hB4 : H4 (n2 + 1 + 2) = .box 53 (x.row.map .s) := by rw [← hHb, set_at, if_pos rfl]; rfl
      have hlo : ∀ x, 1 ≤ x → x < n2 → H4 x = H3 x := fun x _ hx => by rw [← hHb, set_at, if_neg (by omega)]
      replace ho2 := ho2.kept (H' := H4) (Nat.le_refl _) hlo
      replace hq2 := hq2.kept (H' := H4) (Nat.le_refl _) hlo
      clear hHb hH2 hlo
      have hoo := ho2
      refine WX_app ho2 rows_slice (by simp) (by simp only [List.length_append, List.length_map, List.length_cons, List.length_nil, List.length_take]; omega) (by omega) (by omega) ?_
      intro p3 H5 ho3 hfr3 hof3
      have hA5 : H5 0 = .box 25 (c.row.map .s) := by rw [hfr3 0 (by omega) (ho2.off (by omega)), hA4]
      have hB5 : H5 (n2 + 1 + 2) = .box 53 (x.row.map .s) := by rw [hfr3 _ (by omega) (ho2.off (by omega)), hB4]
      replace hq2 := hq2.other hd2 (by omega) (Nat.le_refl _) hfr3
      replace hd2 := hd2.next hq2 (by omega) hof3
      clear hfr3 hof3 ho2 hA4 hB4
      simp only [go_sem, reduceIte, Nat.reduceEqDiff, Nat.reduceAdd, Nat.reduceLeDiff, Nat.reduceLT, hB5, Viw.row]
      refine WX_app hq2 rows_slice (by simp) (by simp only [List.length_append, List.length_map, List.length_cons, List.length_nil, List.length_take]; omega) (by omega) (by omega) ?_
      intro q3 H6 hq3 hfr4 hof4
      have hA6 : H6 0 = .box 25 (c.row.map .s) := by rw [hfr4 0 (by omega) (hq2.off (by omega)), hA5]
      replace ho3 := ho3.other hd2.symm (by omega) (Nat.le_refl _) hfr4
      replace hd2 := (hd2.symm.next ho3 (by omega) hof4).symm
      clear hfr4 hof4 hq2 hA5 hB5
      simp only [go_sem, reduceIte, Nat.reduceEqDiff, Nat.reduceAdd, Nat.reduceLeDiff, Nat.reduceLT, hi2, wrap_succ (show k < 4611686018427387904 by omega)]
      refine ⟨all2 (held_app (p := T2 2) rfl rfl rfl hoo (hoo.off (by omega)) (by omega)) (held_app (p := T2 2) rfl rfl rfl hoo (hoo.off (by omega)) (by omega)), hA6, ?_, ?_, hd2⟩
      · have := ho3.kept (n' := n2 + 1 + 2 + 1 + 1 + 3 + 1 + 1 + 3 + 1 + 1 + 2 + 2) (by omega) (fun _ _ _ => rfl)
        rw [take_step default hlt2, hx]
        simp only [List.map_append, List.map_cons, List.map_nil, List.append_assoc, List.cons_append, List.nil_append, List.flatMap_append, List.flatMap_cons, List.flatMap_nil, List.append_nil, List.take_zero, strRow] at this ⊢
        exact this
      · have := hq3.kept (n' := n2 + 1 + 2 + 1 + 1 + 3 + 1 + 1 + 3 + 1 + 1 + 2 + 2) (by omega) (fun _ _ _ => rfl)
        rw [take_step default hlt2, hx]
        simp only [List.map_append, List.map_cons, List.map_nil, List.append_assoc, List.cons_append, List.nil_append, List.flatMap_append, List.flatMap_cons, List.flatMap_nil, List.append_nil, List.take_zero, intRow] at this ⊢
        exact this
    · rintro T2 H3 n2 hf2 hi2 ⟨hH2, hn2, ho2, hq2, hd2⟩ _
      have g29 : T2 48 = .i64 c.views.l.length := hf2 48 rfl
      clear hf2
      simp only [go_sem, reduceIte, Nat.reduceEqDiff, Nat.reduceAdd, Nat.reduceLeDiff, Nat.reduceLT, g29, hi2, hH2, Int.lt_irrefl, decide_false]
      rw [List.take_of_length_le (Nat.le_refl _)] at ho2 hq2
      obtain ⟨s1, h1, h2⟩ := ho2.back
      obtain ⟨s2, h3, h4⟩ := hq2.back
      simp only [own_tuple, ownL_cons, ownL_nil, h1, h3, bnd_some, WX_some]
      exact ⟨s1, s2, rfl, h2, h4⟩
end Go.Vm
