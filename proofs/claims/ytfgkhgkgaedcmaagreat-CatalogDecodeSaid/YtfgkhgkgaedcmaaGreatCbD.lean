/- The names and the numbers of all definitions. -/
import Derived.Test.YtfgkhgkgaedcmaaGreatCbC
set_option linter.unusedVariables false
set_option linter.unusedSimpArgs false
set_option maxRecDepth 100000
namespace Go.Vm

def tnames (t : Tab) : List (List UInt8) := t.name :: t.idx.l.map (·.name)
def names (c : Cat) : List (List UInt8) := c.tabs.l.flatMap tnames ++ c.views.l.map (·.name)
theorem tnames_len {t : Tab} (h : FewT t) : (tnames t).length ≤ 402 := by
  have := h.idx
  simp [tnames]
  omega
theorem tnames_flat {l : List Tab} (h : ∀ j, j < l.length → FewT (l.getD j default)) : ∀ j, j ≤ l.length → ((l.take j).flatMap tnames).length ≤ 402 * j
  | 0, _ => by simp
  | j + 1, hj => by
    rw [take_step default (by omega), List.flatMap_append, List.length_append, List.flatMap_cons, List.flatMap_nil, List.append_nil]
    have := tnames_flat h j (by omega)
    have := tnames_len (h j (by omega))
    omega
theorem t28 (c : Cat) (hc : FewC c) : ∃ v, calL EE 20 [.st c.row] [] = some (.ret v, []) ∧ ∃ s : Slc (List UInt8), v = .s (s.sv strRow) ∧ s.l = names c := by
  refine fn_ex f20 (by simp) ?_
  unfold c20
  simp only [go_sem, reduceIte, Nat.reduceEqDiff, Nat.reduceAdd, Nat.reduceLeDiff, Nat.reduceLT, Cat.row]
  have hb0 := hc.tabs
  have hb1 := hc.views
  refine WP_scan rfl 4 c.tabs.l.length (fun j => True) (fun j T H n => H 0 = .box 25 (c.row.map .s) ∧ 1 ≤ n ∧ Own 1 9 1 H n (T 3) (((c.tabs.l.take j).flatMap tnames).map strRow)) rfl ⟨rfl, by omega, .lit⟩ ?_ ?_
  · rintro j T' H' n' hlt hf hi ⟨hH, hn, ho⟩ _
    have hb : T' 1 = .ptr 0 0 := hf 1 rfl
    have hbound := tnames_flat hc.tab j (by omega)
    have hft := hc.tab j hlt
    clear hf
    simp only [go_sem, reduceIte, Nat.reduceEqDiff, Nat.reduceAdd, Nat.reduceLeDiff, Nat.reduceLT, hb, hi, hH, Int.ofNat_lt, hlt, wrap_succ (show j < 4611686018427387904 by omega), decide_true, ia_tab, Tab.row, Cat.row]
    refine WX_app ho rows_slice (by simp) (by simp only [List.length_append, List.length_map, List.length_cons, List.length_nil, List.length_take]; omega) (by omega) (by omega) ?_
    intro p1 H1 ho1 hfr1 hof1
    have hH1 : H1 0 = .box 25 (c.row.map .s) := by rw [hfr1 0 (by omega) (ho.off (by omega)), hH]
    clear hfr1 hof1 ho hH
    simp only [go_sem, reduceIte, Nat.reduceEqDiff, Nat.reduceAdd, Nat.reduceLeDiff, Nat.reduceLT]
    refine WP_scan rfl 5 (c.tabs.l.getD j default).idx.l.length (fun j => True) (fun k T H n => H 0 = .box 25 (c.row.map .s) ∧ 1 ≤ n ∧ Own 1 9 1 H n (T 3) ((((c.tabs.l.take j).flatMap tnames) ++ (c.tabs.l.getD j default).name :: ((c.tabs.l.getD j default).idx.l.take k).map (·.name)).map strRow)) rfl ⟨hH1, by omega, ?_⟩ ?_ ?_
    · have := ho1.kept (n' := n' + 5 + 7 + 1 + 1 + 1 + 1) (by omega) (fun _ _ _ => rfl)
      simp only [List.map_append, List.map_cons, List.map_nil, List.append_assoc, List.cons_append, List.nil_append, List.flatMap_append, List.flatMap_cons, List.flatMap_nil, List.append_nil, List.take_zero, strRow] at this ⊢
      exact this
    · rintro k T2 H2 n2 hlt2 hf2 hi2 ⟨hH2, hn2, ho2⟩ _
      have g1 : T2 1 = .ptr 0 0 := (hf2 1 rfl).trans hb
      have g4 : T2 4 = .i64 j := (hf2 4 rfl).trans hi
      clear hf2
      have := hft.idx
      simp only [go_sem, reduceIte, Nat.reduceEqDiff, Nat.reduceAdd, Nat.reduceLeDiff, Nat.reduceLT, g1, g4, hi2, hH2, Int.ofNat_lt, hlt, hlt2, wrap_succ (show k < 4611686018427387904 by omega), decide_true, ia_tab, ia_idx, Tab.row, Idx.row, Cat.row]
      refine WX_app ho2 rows_slice (by simp) (by simp only [List.length_append, List.length_map, List.length_cons, List.length_nil, List.length_take]; omega) (by omega) (by omega) ?_
      intro p3 H3 ho3 hfr3 hof3
      have hH3 : H3 0 = .box 25 (c.row.map .s) := by rw [hfr3 0 (by omega) (ho2.off (by omega)), hH2]
      simp only [go_sem, reduceIte, Nat.reduceEqDiff, Nat.reduceAdd, Nat.reduceLeDiff, Nat.reduceLT, hi2, wrap_succ (show k < 4611686018427387904 by omega)]
      refine ⟨hH3, ?_⟩
      have := ho3.kept (n' := n2 + 9 + 11 + 1 + 1 + 1 + 3) (by omega) (fun _ _ _ => rfl)
      rw [take_step default hlt2]
      simp only [List.map_append, List.map_cons, List.map_nil, List.append_assoc, List.cons_append, List.nil_append, List.flatMap_append, List.flatMap_cons, List.flatMap_nil, List.append_nil, List.take_zero, strRow] at this ⊢
      exact this
    · rintro T2 H2 n2 hf2 hi2 ⟨hH2, hn2, ho2⟩ _
      have g1 : T2 1 = .ptr 0 0 := (hf2 1 rfl).trans hb
      have g4 : T2 4 = .i64 j := (hf2 4 rfl).trans hi
      clear hf2
      simp only [go_sem, reduceIte, Nat.reduceEqDiff, Nat.reduceAdd, Nat.reduceLeDiff, Nat.reduceLT, g1, g4, hi2, hH2, hlt, Int.ofNat_lt, Int.lt_irrefl, decide_false, decide_true, ia_tab, Tab.row, Cat.row, wrap_succ (show j < 4611686018427387904 by omega)]
      have := ho2.kept (n' := n2 + 9 + 3) (by omega) (fun _ _ _ => rfl)
      rw [take_step default hlt]
      rw [List.take_of_length_le (Nat.le_refl _)] at this
      simp only [List.map_append, List.map_cons, List.map_nil, List.append_assoc, List.cons_append, List.nil_append, List.flatMap_append, List.flatMap_cons, List.flatMap_nil, List.append_nil, List.take_zero, tnames, strRow] at this ⊢
      exact this
  · rintro T' H' n' hf hi ⟨hH, hn, ho⟩ _
    have hb : T' 1 = .ptr 0 0 := hf 1 rfl
    have hbound := tnames_flat hc.tab c.tabs.l.length (Nat.le_refl _)
    clear hf
    simp only [go_sem, reduceIte, Nat.reduceEqDiff, Nat.reduceAdd, Nat.reduceLeDiff, Nat.reduceLT, hb, hi, hH, Int.lt_irrefl, decide_false, Cat.row]
    refine WP_scan rfl 6 c.views.l.length (fun j => True) (fun j T H n => H 0 = .box 25 (c.row.map .s) ∧ 1 ≤ n ∧ Own 1 9 1 H n (T 3) ((c.tabs.l.flatMap tnames ++ (c.views.l.take j).map (·.name)).map strRow)) rfl ⟨hH, by omega, ?_⟩ ?_ ?_
    · have := ho.kept (n' := n' + 5 + 1) (by omega) (fun _ _ _ => rfl)
      rw [List.take_of_length_le (Nat.le_refl _)] at this
      simp only [List.map_append, List.map_cons, List.map_nil, List.append_assoc, List.cons_append, List.nil_append, List.flatMap_append, List.flatMap_cons, List.flatMap_nil, List.append_nil, List.take_zero, List.take_zero] at this ⊢
      exact this
    · rintro k T2 H2 n2 hlt2 hf2 hi2 ⟨hH2, hn2, ho2⟩ _
      have g1 : T2 1 = .ptr 0 0 := (hf2 1 rfl).trans hb
      clear hf2
      rw [List.take_of_length_le (Nat.le_refl _)] at hbound
      simp only [go_sem, reduceIte, Nat.reduceEqDiff, Nat.reduceAdd, Nat.reduceLeDiff, Nat.reduceLT, g1, hi2, hH2, Int.ofNat_lt, hlt2, wrap_succ (show k < 4611686018427387904 by omega), decide_true, ia_viw, Viw.row, Cat.row]
      refine WX_app ho2 rows_slice (by simp) (by simp only [List.length_append, List.length_map, List.length_cons, List.length_nil, List.length_take] at hbound ⊢; omega) (by omega) (by omega) ?_
      intro p3 H3 ho3 hfr3 hof3
      have hH3 : H3 0 = .box 25 (c.row.map .s) := by rw [hfr3 0 (by omega) (ho2.off (by omega)), hH2]
      simp only [go_sem, reduceIte, Nat.reduceEqDiff, Nat.reduceAdd, Nat.reduceLeDiff, Nat.reduceLT, hi2, wrap_succ (show k < 4611686018427387904 by omega)]
      refine ⟨hH3, ?_⟩
      have := ho3.kept (n' := n2 + 5 + 7 + 1 + 1 + 1 + 3) (by omega) (fun _ _ _ => rfl)
      rw [take_step default hlt2]
      simp only [List.map_append, List.map_cons, List.map_nil, List.append_assoc, List.cons_append, List.nil_append, List.flatMap_append, List.flatMap_cons, List.flatMap_nil, List.append_nil, List.take_zero, strRow] at this ⊢
      exact this
    · rintro T2 H2 n2 hf2 hi2 ⟨hH2, hn2, ho2⟩ _
      have g1 : T2 1 = .ptr 0 0 := (hf2 1 rfl).trans hb
      clear hf2
      simp only [go_sem, reduceIte, Nat.reduceEqDiff, Nat.reduceAdd, Nat.reduceLeDiff, Nat.reduceLT, g1, hi2, hH2, Int.lt_irrefl, decide_false, Cat.row]
      rw [List.take_of_length_le (Nat.le_refl _)] at ho2
      obtain ⟨s, h1, h2⟩ := ho2.back
      rw [h1]
      simp only [WX_some]
      exact ⟨s, rfl, h2⟩

def tids (t : Tab) : List (Int) := t.id :: t.idx.l.map (·.id)
def ids (c : Cat) : List (Int) := c.tabs.l.flatMap tids ++ c.views.l.map (·.id)
theorem tids_len {t : Tab} (h : FewT t) : (tids t).length ≤ 402 := by
  have := h.idx
  simp [tids]
  omega
theorem tids_flat {l : List Tab} (h : ∀ j, j < l.length → FewT (l.getD j default)) : ∀ j, j ≤ l.length → ((l.take j).flatMap tids).length ≤ 402 * j
  | 0, _ => by simp
  | j + 1, hj => by
    rw [take_step default (by omega), List.flatMap_append, List.length_append, List.flatMap_cons, List.flatMap_nil, List.append_nil]
    have := tids_flat h j (by omega)
    have := tids_len (h j (by omega))
    omega
theorem t29 (c : Cat) (hc : FewC c) : ∃ v, calL EE 21 [.st c.row] [] = some (.ret v, []) ∧ ∃ s : Slc (Int), v = .s (s.sv intRow) ∧ s.l = ids c := by
  refine fn_ex f21 (by simp) ?_
  unfold c21
  simp only [go_sem, reduceIte, Nat.reduceEqDiff, Nat.reduceAdd, Nat.reduceLeDiff, Nat.reduceLT, Cat.row]
  have hb0 := hc.tabs
  have hb1 := hc.views
  refine WP_scan rfl 4 c.tabs.l.length (fun j => True) (fun j T H n => H 0 = .box 25 (c.row.map .s) ∧ 1 ≤ n ∧ Own 1 3 1 H n (T 3) (((c.tabs.l.take j).flatMap tids).map intRow)) rfl ⟨rfl, by omega, .lit⟩ ?_ ?_
  · rintro j T' H' n' hlt hf hi ⟨hH, hn, ho⟩ _
    have hb : T' 1 = .ptr 0 0 := hf 1 rfl
    have hbound := tids_flat hc.tab j (by omega)
    have hft := hc.tab j hlt
    clear hf
    simp only [go_sem, reduceIte, Nat.reduceEqDiff, Nat.reduceAdd, Nat.reduceLeDiff, Nat.reduceLT, hb, hi, hH, Int.ofNat_lt, hlt, wrap_succ (show j < 4611686018427387904 by omega), decide_true, ia_tab, Tab.row, Cat.row]
    refine WX_app ho rows_slice (by simp) (by simp only [List.length_append, List.length_map, List.length_cons, List.length_nil, List.length_take]; omega) (by omega) (by omega) ?_
    intro p1 H1 ho1 hfr1 hof1
    have hH1 : H1 0 = .box 25 (c.row.map .s) := by rw [hfr1 0 (by omega) (ho.off (by omega)), hH]
    clear hfr1 hof1 ho hH
    simp only [go_sem, reduceIte, Nat.reduceEqDiff, Nat.reduceAdd, Nat.reduceLeDiff, Nat.reduceLT]
    refine WP_scan rfl 5 (c.tabs.l.getD j default).idx.l.length (fun j => True) (fun k T H n => H 0 = .box 25 (c.row.map .s) ∧ 1 ≤ n ∧ Own 1 3 1 H n (T 3) ((((c.tabs.l.take j).flatMap tids) ++ (c.tabs.l.getD j default).id :: ((c.tabs.l.getD j default).idx.l.take k).map (·.id)).map intRow)) rfl ⟨hH1, by omega, ?_⟩ ?_ ?_
    · have := ho1.kept (n' := n' + 5 + 7 + 1 + 1 + 1 + 1) (by omega) (fun _ _ _ => rfl)
      simp only [List.map_append, List.map_cons, List.map_nil, List.append_assoc, List.cons_append, List.nil_append, List.flatMap_append, List.flatMap_cons, List.flatMap_nil, List.append_nil, List.take_zero, intRow] at this ⊢
      exact this
    · rintro k T2 H2 n2 hlt2 hf2 hi2 ⟨hH2, hn2, ho2⟩ _
      have g1 : T2 1 = .ptr 0 0 := (hf2 1 rfl).trans hb
      have g4 : T2 4 = .i64 j := (hf2 4 rfl).trans hi
      clear hf2
      have := hft.idx
      simp only [go_sem, reduceIte, Nat.reduceEqDiff, Nat.reduceAdd, Nat.reduceLeDiff, Nat.reduceLT, g1, g4, hi2, hH2, Int.ofNat_lt, hlt, hlt2, wrap_succ (show k < 4611686018427387904 by omega), decide_true, ia_tab, ia_idx, Tab.row, Idx.row, Cat.row]
      refine WX_app ho2 rows_slice (by simp) (by simp only [List.length_append, List.length_map, List.length_cons, List.length_nil, List.length_take]; omega) (by omega) (by omega) ?_
      intro p3 H3 ho3 hfr3 hof3
      have hH3 : H3 0 = .box 25 (c.row.map .s) := by rw [hfr3 0 (by omega) (ho2.off (by omega)), hH2]
      simp only [go_sem, reduceIte, Nat.reduceEqDiff, Nat.reduceAdd, Nat.reduceLeDiff, Nat.reduceLT, hi2, wrap_succ (show k < 4611686018427387904 by omega)]
      refine ⟨hH3, ?_⟩
      have := ho3.kept (n' := n2 + 9 + 11 + 1 + 1 + 1 + 3) (by omega) (fun _ _ _ => rfl)
      rw [take_step default hlt2]
      simp only [List.map_append, List.map_cons, List.map_nil, List.append_assoc, List.cons_append, List.nil_append, List.flatMap_append, List.flatMap_cons, List.flatMap_nil, List.append_nil, List.take_zero, intRow] at this ⊢
      exact this
    · rintro T2 H2 n2 hf2 hi2 ⟨hH2, hn2, ho2⟩ _
      have g1 : T2 1 = .ptr 0 0 := (hf2 1 rfl).trans hb
      have g4 : T2 4 = .i64 j := (hf2 4 rfl).trans hi
      clear hf2
      simp only [go_sem, reduceIte, Nat.reduceEqDiff, Nat.reduceAdd, Nat.reduceLeDiff, Nat.reduceLT, g1, g4, hi2, hH2, hlt, Int.ofNat_lt, Int.lt_irrefl, decide_false, decide_true, ia_tab, Tab.row, Cat.row, wrap_succ (show j < 4611686018427387904 by omega)]
      have := ho2.kept (n' := n2 + 9 + 3) (by omega) (fun _ _ _ => rfl)
      rw [take_step default hlt]
      rw [List.take_of_length_le (Nat.le_refl _)] at this
      simp only [List.map_append, List.map_cons, List.map_nil, List.append_assoc, List.cons_append, List.nil_append, List.flatMap_append, List.flatMap_cons, List.flatMap_nil, List.append_nil, List.take_zero, tids, intRow] at this ⊢
      exact this
  · rintro T' H' n' hf hi ⟨hH, hn, ho⟩ _
    have hb : T' 1 = .ptr 0 0 := hf 1 rfl
    have hbound := tids_flat hc.tab c.tabs.l.length (Nat.le_refl _)
    clear hf
    simp only [go_sem, reduceIte, Nat.reduceEqDiff, Nat.reduceAdd, Nat.reduceLeDiff, Nat.reduceLT, hb, hi, hH, Int.lt_irrefl, decide_false, Cat.row]
    refine WP_scan rfl 6 c.views.l.length (fun j => True) (fun j T H n => H 0 = .box 25 (c.row.map .s) ∧ 1 ≤ n ∧ Own 1 3 1 H n (T 3) ((c.tabs.l.flatMap tids ++ (c.views.l.take j).map (·.id)).map intRow)) rfl ⟨hH, by omega, ?_⟩ ?_ ?_
    · have := ho.kept (n' := n' + 5 + 1) (by omega) (fun _ _ _ => rfl)
      rw [List.take_of_length_le (Nat.le_refl _)] at this
      simp only [List.map_append, List.map_cons, List.map_nil, List.append_assoc, List.cons_append, List.nil_append, List.flatMap_append, List.flatMap_cons, List.flatMap_nil, List.append_nil, List.take_zero, List.take_zero] at this ⊢
      exact this
    · rintro k T2 H2 n2 hlt2 hf2 hi2 ⟨hH2, hn2, ho2⟩ _
      have g1 : T2 1 = .ptr 0 0 := (hf2 1 rfl).trans hb
      clear hf2
      rw [List.take_of_length_le (Nat.le_refl _)] at hbound
      simp only [go_sem, reduceIte, Nat.reduceEqDiff, Nat.reduceAdd, Nat.reduceLeDiff, Nat.reduceLT, g1, hi2, hH2, Int.ofNat_lt, hlt2, wrap_succ (show k < 4611686018427387904 by omega), decide_true, ia_viw, Viw.row, Cat.row]
      refine WX_app ho2 rows_slice (by simp) (by simp only [List.length_append, List.length_map, List.length_cons, List.length_nil, List.length_take] at hbound ⊢; omega) (by omega) (by omega) ?_
      intro p3 H3 ho3 hfr3 hof3
      have hH3 : H3 0 = .box 25 (c.row.map .s) := by rw [hfr3 0 (by omega) (ho2.off (by omega)), hH2]
      simp only [go_sem, reduceIte, Nat.reduceEqDiff, Nat.reduceAdd, Nat.reduceLeDiff, Nat.reduceLT, hi2, wrap_succ (show k < 4611686018427387904 by omega)]
      refine ⟨hH3, ?_⟩
      have := ho3.kept (n' := n2 + 5 + 7 + 1 + 1 + 1 + 3) (by omega) (fun _ _ _ => rfl)
      rw [take_step default hlt2]
      simp only [List.map_append, List.map_cons, List.map_nil, List.append_assoc, List.cons_append, List.nil_append, List.flatMap_append, List.flatMap_cons, List.flatMap_nil, List.append_nil, List.take_zero, intRow] at this ⊢
      exact this
    · rintro T2 H2 n2 hf2 hi2 ⟨hH2, hn2, ho2⟩ _
      have g1 : T2 1 = .ptr 0 0 := (hf2 1 rfl).trans hb
      clear hf2
      simp only [go_sem, reduceIte, Nat.reduceEqDiff, Nat.reduceAdd, Nat.reduceLeDiff, Nat.reduceLT, g1, hi2, hH2, Int.lt_irrefl, decide_false, Cat.row]
      rw [List.take_of_length_le (Nat.le_refl _)] at ho2
      obtain ⟨s, h1, h2⟩ := ho2.back
      rw [h1]
      simp only [WX_some]
      exact ⟨s, rfl, h2⟩
end Go.Vm
