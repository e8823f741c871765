/- The reference's validity. -/
import Derived.Test.YtfgkhgkgaedcmaaGreatCbI
set_option linter.unusedVariables false
set_option linter.unusedSimpArgs false
set_option maxRecDepth 100000
namespace Go.Vm

theorem t96 (s : Slc Int) (m : Int) (hs : s.l.length ≤ 401) : calL EE 65 [.s (s.sv intRow), .i64 m] [] = some (.ret (.bool (tf (IdxsOk s.l m))), []) := by
  refine fn_ok f65 (by simp) ?_
  unfold c65
  simp only [go_sem, reduceIte, Nat.reduceEqDiff, Nat.reduceAdd, Nat.reduceLeDiff, Nat.reduceLT]
  refine WP_scan rfl 5 s.l.length (fun j => (0 ≤ s.l.getD j default ∧ s.l.getD j default < m) ∧ ∀ k, k < j → s.l.getD j default ≠ s.l.getD k default) (fun _ _ _ _ => True) rfl trivial ?_ ?_
  · rintro j T' H' n' hlt hf hi _ _
    have h0 : T' 0 = .s (s.sv intRow) := hf 0 rfl
    have h1 : T' 1 = .i64 m := hf 1 rfl
    clear hf
    simp only [go_sem, reduceIte, Nat.reduceEqDiff, Nat.reduceAdd, Nat.reduceLeDiff, Nat.reduceLT, h0, h1, hi, Int.ofNat_lt, hlt, decide_true, ia_int, intRow]
    split
    · rename_i h
      simp only [Bool.or_eq_true, decide_eq_true_eq] at h
      rw [tf_not (fun hh => by have := hh.at_ j hlt; omega)]
    · rename_i h
      simp only [Bool.or_eq_true, decide_eq_true_eq, not_or] at h
      refine WP_scan rfl 6 j (fun k => s.l.getD j default ≠ s.l.getD k default) (fun _ _ _ _ => True) rfl trivial ?_ ?_
      · rintro k T2 H2 n2 hlt2 hf2 hi2 _ _
        have g0 : T2 0 = .s (s.sv intRow) := (hf2 0 rfl).trans h0
        have g3 : T2 5 = .i64 j := (hf2 5 rfl).trans hi
        clear hf2
        simp only [go_sem, reduceIte, Nat.reduceEqDiff, Nat.reduceAdd, Nat.reduceLeDiff, Nat.reduceLT, g0, g3, hi2, Int.ofNat_lt, hlt, hlt2, wrap_succ (show k < 4611686018427387904 by omega), decide_true, ia_int, intRow, (show k < s.l.length by omega), decide_eq_true_eq]
        split
        · rename_i h2
          rw [tf_not (fun hh => (nodup_iff default).1 hh.nodup j hlt k hlt2 h2)]
        · rename_i h2
          exact h2
      · rintro T2 H2 n2 hf2 hi2 _ hp2
        have g3 : T2 5 = .i64 j := (hf2 5 rfl).trans hi
        clear hf2
        simp only [go_sem, reduceIte, Nat.reduceEqDiff, Nat.reduceAdd, Nat.reduceLeDiff, Nat.reduceLT, g3, hi2, Int.lt_irrefl, decide_false, wrap_succ (show j < 4611686018427387904 by omega)]
        exact ⟨⟨by omega, by omega⟩, hp2⟩
  · rintro T' H' n' hf hi _ hp
    have h0 : T' 0 = .s (s.sv intRow) := hf 0 rfl
    clear hf
    simp only [go_sem, reduceIte, Nat.reduceEqDiff, Nat.reduceAdd, Nat.reduceLeDiff, Nat.reduceLT, h0, hi, Int.lt_irrefl, decide_false]
    rw [tf_of ⟨fun j hj => (hp j hj).1, (nodup_iff default).2 (fun j hj => (hp j hj).2)⟩]
theorem t32 (s : Slc Col) (hs : s.l.length ≤ 1073741823) (hn : ∀ j, j < s.l.length → (s.l.getD j default).name.length ≤ 1073741824) : calL EE 64 [.s (s.sv Col.row)] [] = some (.ret (.bool (tf (ColsOk s.l))), []) := by
  refine fn_ok f64 (by simp) ?_
  unfold c64
  simp only [go_sem, reduceIte, Nat.reduceEqDiff, Nat.reduceAdd, Nat.reduceLeDiff, Nat.reduceLT]
  refine WP_scan rfl 4 s.l.length (fun j => ColOk (s.l.getD j default)) (fun j T H n => Own 0 9 1 H n (T 3) (((s.l.take j).map (·.name)).map strRow)) rfl .lit ?_ ?_
  · rintro j T' H' n' hlt hf hi ho _
    have h0 : T' 0 = .s (s.sv Col.row) := hf 0 rfl
    clear hf
    simp only [go_sem, reduceIte, Nat.reduceEqDiff, Nat.reduceAdd, Nat.reduceLeDiff, Nat.reduceLT, h0, hi, Int.ofNat_lt, hlt, decide_true, ia_col, Col.row]
    refine WC_p rfl rfl (t14 _ (by have := hn j hlt; omega)) ?_
    simp only [go_sem, reduceIte, Nat.reduceEqDiff, Nat.reduceAdd, Nat.reduceLeDiff, Nat.reduceLT, h0, hi, Int.ofNat_lt, hlt, decide_true, ia_col, Col.row]
    split
    · rename_i h
      rw [tf_not]
      intro hh
      obtain ⟨h1, h2, h3⟩ := hh.col j hlt
      simp only [h1, Bool.not_true, Bool.false_or, Bool.or_eq_true, decide_eq_true_eq] at h
      omega
    · rename_i h
      refine WX_app ho rows_slice (by simp) (by simp only [List.length_append, List.length_map, List.length_cons, List.length_nil, List.length_take]; omega) (by omega) (by omega) ?_
      intro p1 H1 ho1 hfr1 hof1
      simp only [go_sem, reduceIte, Nat.reduceEqDiff, Nat.reduceAdd, Nat.reduceLeDiff, Nat.reduceLT, hi, wrap_succ (show j < 4611686018427387904 by omega)]
      refine ⟨?_, ?_⟩
      · simp only [Bool.or_eq_true, decide_eq_true_eq, not_or, Bool.not_eq_true', Bool.not_eq_false] at h
        exact ⟨h.1.1, by omega, by omega⟩
      · have := ho1.kept (n' := n' + 4 + 5 + 1 + 17 + 6 + 1 + 1 + 1 + 3) (by omega) (fun _ _ _ => rfl)
        rw [take_step default hlt]
        simp only [List.map_append, List.map_cons, List.map_nil, List.append_assoc, List.cons_append, List.nil_append, List.flatMap_append, List.flatMap_cons, List.flatMap_nil, List.append_nil, List.take_zero, strRow] at this ⊢
        exact this
  · rintro T' H' n' hf hi ho hp
    have h0 : T' 0 = .s (s.sv Col.row) := hf 0 rfl
    clear hf
    rw [List.take_of_length_le (Nat.le_refl _)] at ho
    simp only [go_sem, reduceIte, Nat.reduceEqDiff, Nat.reduceAdd, Nat.reduceLeDiff, Nat.reduceLT, h0, hi, Int.lt_irrefl, decide_false]
    split
    · rename_i h
      refine WC_own1 (v := .bool (decide (s.l.map (·.name)).Nodup)) ho rfl (fun s2 hs2 => by
        have := t53 s2 (by rw [hs2, List.length_map]; omega)
        rw [hs2] at this
        exact this) ?_
      intro H1 _ _
      simp only [go_sem, reduceIte, Nat.reduceEqDiff, Nat.reduceAdd, Nat.reduceLeDiff, Nat.reduceLT, h]
      simp only [Bool.and_eq_true, decide_eq_true_eq] at h
      have : decide (s.l.map (·.name)).Nodup = tf (ColsOk s.l) := by
        apply tf_eq
        rw [decide_eq_true_eq]
        exact ⟨fun hh => ⟨hp, by omega, by omega, hh⟩, fun hh => hh.nodup⟩
      rw [this]
    · rename_i h
      simp only [go_sem, reduceIte, Nat.reduceEqDiff, Nat.reduceAdd, Nat.reduceLeDiff, Nat.reduceLT, h]
      rw [tf_not]
      rintro ⟨_, h1, h2, _⟩
      apply h
      simp only [Bool.and_eq_true, decide_eq_true_eq]
      omega
structure TabR (t : Tab) : Prop where
  cols : ColsOk t.cols.l
  key : IdxsOk t.key.l t.cols.l.length
  ix : ∀ j, j < t.idx.l.length → IxOk t (t.idx.l.getD j default) ∧ (0 < j → (t.idx.l.getD (j - 1) default).id < (t.idx.l.getD j default).id)
theorem t54 (t : Tab) (ht : FewT t) : calL EE 24 [.st t.row] [] = some (.ret (.bool (tf (TabR t))), []) := by
  have hb0 := ht.cols
  have hb1 := ht.idx
  have hb2 := ht.key
  refine fn_ok f24 (by simp) ?_
  unfold c24
  simp only [go_sem, reduceIte, Nat.reduceEqDiff, Nat.reduceAdd, Nat.reduceLeDiff, Nat.reduceLT, Tab.row]
  refine WC_p rfl rfl (t32 t.cols (by omega) (fun j hj => by have := ht.col j hj; omega)) ?_
  simp only [go_sem, reduceIte, Nat.reduceEqDiff, Nat.reduceAdd, Nat.reduceLeDiff, Nat.reduceLT, Tab.row]
  cases h1 : tf (ColsOk t.cols.l) with
  | false =>
    simp only [go_sem, reduceIte, Nat.reduceEqDiff, Nat.reduceAdd, Nat.reduceLeDiff, Nat.reduceLT]
    rw [tf_not (fun hh : TabR t => by rw [tf_of hh.cols] at h1; cases h1)]
  | true =>
    simp only [go_sem, reduceIte, Nat.reduceEqDiff, Nat.reduceAdd, Nat.reduceLeDiff, Nat.reduceLT, Tab.row]
    refine WC_p rfl rfl (t96 t.key t.cols.l.length (by omega)) ?_
    simp only [go_sem, reduceIte, Nat.reduceEqDiff, Nat.reduceAdd, Nat.reduceLeDiff, Nat.reduceLT, Tab.row]
    cases h2 : tf (IdxsOk t.key.l t.cols.l.length) with
    | false =>
      simp only [go_sem, reduceIte, Nat.reduceEqDiff, Nat.reduceAdd, Nat.reduceLeDiff, Nat.reduceLT]
      rw [tf_not (fun hh : TabR t => by rw [tf_of hh.key] at h2; cases h2)]
    | true =>
      simp only [go_sem, reduceIte, Nat.reduceEqDiff, Nat.reduceAdd, Nat.reduceLeDiff, Nat.reduceLT]
      refine WP_scan rfl 3 t.idx.l.length (fun j => IxOk t (t.idx.l.getD j default) ∧ (0 < j → (t.idx.l.getD (j - 1) default).id < (t.idx.l.getD j default).id)) (fun _ T H n => H 0 = .box 47 (t.row.map .s) ∧ 1 ≤ n) rfl ⟨rfl, by omega⟩ ?_ ?_
      · rintro j T' H' n' hlt hf hi ⟨hH, hn⟩ _
        have hb : T' 1 = .ptr 0 0 := hf 1 rfl
        clear hf
        have hix := ht.ix j hlt
        have hne : (0 = n' + 5 + 5) = False := eq_false (by omega)
        simp only [go_sem, reduceIte, Nat.reduceEqDiff, Nat.reduceAdd, Nat.reduceLeDiff, Nat.reduceLT, hb, hi, hH, Int.ofNat_lt, hlt, decide_true, ia_idx, Tab.row, Idx.row, hne]
        generalize hx : t.idx.l.getD j default = x at hix
        have hl := hix.2
        have e1 : IntKind.i64.wrap ((j : Int) - 1) = (j : Int) - 1 := wrap_in (by omega) (by omega)
        have e2 : ((j : Int) - 1).toNat = j - 1 := by omega
        have e3 : j - 1 < t.idx.l.length := by omega
        cases hz : decide ((x.cols.l.length : Int) = 0) with
        | true =>
          simp only [go_sem, reduceIte, Nat.reduceEqDiff, Nat.reduceAdd, Nat.reduceLeDiff, Nat.reduceLT, hb, hi, hH, hne, Tab.row, Idx.row, e1, e2, e3, ia_idx]
          rw [decide_eq_true_eq] at hz
          rw [tf_not]
          intro hh
          have := (hh.ix j hlt).1.some_
          rw [hx] at this
          omega
        | false =>
          rw [decide_eq_false_iff_not] at hz
          simp only [go_sem, reduceIte, Nat.reduceEqDiff, Nat.reduceAdd, Nat.reduceLeDiff, Nat.reduceLT]
          refine WC_p rfl rfl (t96 x.cols t.cols.l.length (by omega)) ?_
          simp only [go_sem, reduceIte, Nat.reduceEqDiff, Nat.reduceAdd, Nat.reduceLeDiff, Nat.reduceLT, hb, hi, hH, hne, Tab.row, Idx.row, e1, e2, e3, ia_idx, hz, decide_false]
          refine ⟨.inr fun h => ?_, ?_⟩
          · rw [decide_eq_true_eq] at h; omega
          · split
            · rename_i h
              rw [tf_not]
              intro hh
              obtain ⟨k1, k2⟩ := hh.ix j hlt
              rw [hx] at k1 k2
              rw [tf_of k1.idxs] at h
              simp only [Bool.not_true, Bool.false_or, Bool.and_eq_true, decide_eq_true_eq] at h
              have := k2 (by omega)
              omega
            · rename_i h
              simp only [wrap_succ (show j < 4611686018427387904 by omega), hx]
              simp only [Bool.or_eq_true, Bool.and_eq_true, decide_eq_true_eq, not_or, Bool.not_eq_true', Bool.not_eq_false, tf_iff] at h
              exact ⟨⟨⟨by omega, h.1⟩, fun h0 => by omega⟩, trivial⟩
      · rintro T' H' n' hf hi ⟨hH, hn⟩ hp
        have hb : T' 1 = .ptr 0 0 := hf 1 rfl
        clear hf
        simp only [go_sem, reduceIte, Nat.reduceEqDiff, Nat.reduceAdd, Nat.reduceLeDiff, Nat.reduceLT, hb, hi, hH, Int.lt_irrefl, decide_false, Tab.row]
        rw [tf_iff] at h1 h2
        rw [tf_of (p := TabR t) ⟨h1, h2, hp⟩]

structure ValidR (c : Cat) : Prop where
  next0 : 0 ≤ c.next
  next1 : c.next ≤ 2147483647
  len : (names c).length ≤ 64
  nodup : (names c).Nodup
  id_ : ∀ j, j < (ids c).length → vname ((names c).getD j default) = true ∧ (1 ≤ (ids c).getD j default ∧ (ids c).getD j default ≤ c.next) ∧ ∀ k, k < j → (ids c).getD j default ≠ (ids c).getD k default
  tab : ∀ j, j < c.tabs.l.length → TabR (c.tabs.l.getD j default) ∧ (0 < j → (c.tabs.l.getD (j - 1) default).id < (c.tabs.l.getD j default).id)
  view : ∀ j, j < c.views.l.length → (1 ≤ (c.views.l.getD j default).text.length ∧ (c.views.l.getD j default).text.length ≤ 16384) ∧ (0 < j → (c.views.l.getD (j - 1) default).id < (c.views.l.getD j default).id)
theorem same_len (c : Cat) : (names c).length = (ids c).length := by
  have : ∀ l : List Tab, (l.flatMap tnames).length = (l.flatMap tids).length := by
    intro l
    induction l with
    | nil => rfl
    | cons t l ih => simp only [List.flatMap_cons, List.length_append, ih, tnames, tids, List.length_cons, List.length_map]
  simp only [names, ids, List.length_append, List.length_map, this]
theorem t12 (c : Cat) (hc : FewC c) : calL EE 8 [.st c.row] [] = some (.ret (.bool (tf (ValidR c))), []) := by
  obtain ⟨hl1, hl2⟩ := names_len hc
  have hsl := same_len c
  have hb0 := hc.tabs
  have hb1 := hc.views
  have hshort := names_short hc
  refine fn_ok f8 (by simp) ?_
  unfold c8
  simp only [go_sem, reduceIte, Nat.reduceEqDiff, Nat.reduceAdd, Nat.reduceLeDiff, Nat.reduceLT, Cat.row]
  obtain ⟨v, hv, s1, rfl, hs1⟩ := t28 c hc
  refine WC_p rfl rfl hv ?_
  simp only [go_sem, reduceIte, Nat.reduceEqDiff, Nat.reduceAdd, Nat.reduceLeDiff, Nat.reduceLT, Cat.row]
  obtain ⟨v, hv, s2, rfl, hs2⟩ := t29 c hc
  refine WC_p rfl rfl hv ?_
  simp only [go_sem, reduceIte, Nat.reduceEqDiff, Nat.reduceAdd, Nat.reduceLeDiff, Nat.reduceLT, Cat.row]
  generalize hg : (decide (c.next < 0) || decide (2147483647 < c.next) || decide (64 < (s1.l.length : Int))) = g
  cases g with
  | true =>
    simp only [go_sem, reduceIte, Nat.reduceEqDiff, Nat.reduceAdd, Nat.reduceLeDiff, Nat.reduceLT]
    rw [tf_not]
    intro hh
    simp only [Bool.or_eq_true, decide_eq_true_eq, hs1] at hg
    have h1 := hh.len
    have h2 := hh.next0
    have h3 := hh.next1
    omega
  | false =>
    simp only [Bool.or_eq_false_iff, decide_eq_false_iff_not, hs1] at hg
    simp only [go_sem, reduceIte, Nat.reduceEqDiff, Nat.reduceAdd, Nat.reduceLeDiff, Nat.reduceLT]
    refine WC_p rfl rfl (t53 s1 (by rw [hs1]; omega)) ?_
    simp only [go_sem, reduceIte, Nat.reduceEqDiff, Nat.reduceAdd, Nat.reduceLeDiff, Nat.reduceLT]
    cases hd1 : decide s1.l.Nodup with
    | false =>
      simp only [go_sem, reduceIte, Nat.reduceEqDiff, Nat.reduceAdd, Nat.reduceLeDiff, Nat.reduceLT]
      rw [tf_not (fun hh : ValidR c => by rw [decide_eq_false_iff_not, hs1] at hd1; exact hd1 hh.nodup)]
    | true =>
      rw [decide_eq_true_eq, hs1] at hd1
      simp only [go_sem, reduceIte, Nat.reduceEqDiff, Nat.reduceAdd, Nat.reduceLeDiff, Nat.reduceLT]
      refine WP_scan rfl 5 s2.l.length (fun j => vname ((names c).getD j default) = true ∧ (1 ≤ (ids c).getD j default ∧ (ids c).getD j default ≤ c.next) ∧ ∀ k, k < j → (ids c).getD j default ≠ (ids c).getD k default) (fun _ T H n => H 0 = .box 25 (c.row.map .s)) rfl rfl ?_ ?_
      · rintro j T' H' n' hlt hf hi hH _
        have hb : T' 1 = .ptr 0 0 := hf 1 rfl
        have h3 : T' 3 = .s (s1.sv strRow) := hf 3 rfl
        have h4 : T' 4 = .s (s2.sv intRow) := hf 4 rfl
        clear hf
        have hlt1 : j < s1.l.length := by rw [hs1, hsl, ← hs2]; exact hlt
        have hjb : j < 5041 := by have := hlt; rw [hs2] at this; omega
        simp only [go_sem, reduceIte, Nat.reduceEqDiff, Nat.reduceAdd, Nat.reduceLeDiff, Nat.reduceLT, hb, h3, h4, hi, hH, Int.ofNat_lt, hlt, hlt1, decide_true, ia_int, ia_str, Cat.row, intRow, strRow]
        refine WC_p rfl rfl (t14 _ (by have := hshort (s1.l.getD j default) (by rw [← hs1]; exact getD_mem _ hlt1); omega)) ?_
        simp only [go_sem, reduceIte, Nat.reduceEqDiff, Nat.reduceAdd, Nat.reduceLeDiff, Nat.reduceLT, hb, h3, h4, hi, hH, Int.ofNat_lt, hlt, hlt1, decide_true, ia_int, ia_str, Cat.row, intRow, strRow]
        split
        · rename_i h
          rw [tf_not]
          intro hh
          obtain ⟨k1, k2, _⟩ := hh.id_ j (by rw [← hs2]; exact hlt)
          rw [hs1, hs2, k1] at h
          simp only [Bool.not_true, Bool.false_or, Bool.or_eq_true, decide_eq_true_eq] at h
          omega
        · rename_i h
          rw [hs1, hs2] at h
          simp only [Bool.or_eq_true, decide_eq_true_eq, not_or, Bool.not_eq_true', Bool.not_eq_false] at h
          refine WP_scan rfl 6 j (fun k => (ids c).getD j default ≠ (ids c).getD k default) (fun _ _ H n => H = H') rfl rfl ?_ ?_
          · rintro k T2 H2 n2 hlt2 hf2 hi2 rfl _
            have g4 : T2 4 = .s (s2.sv intRow) := (hf2 4 rfl).trans h4
            have g5 : T2 5 = .i64 j := (hf2 5 rfl).trans hi
            clear hf2
            simp only [go_sem, reduceIte, Nat.reduceEqDiff, Nat.reduceAdd, Nat.reduceLeDiff, Nat.reduceLT, g4, g5, hi2, Int.ofNat_lt, hlt, hlt2, wrap_succ (show k < 4611686018427387904 by omega), decide_true, ia_int, intRow, (show k < s2.l.length by omega), decide_eq_true_eq]
            split
            · rename_i h2
              rw [hs2] at h2
              rw [tf_not (fun hh : ValidR c => (hh.id_ j (by rw [← hs2]; exact hlt)).2.2 k hlt2 h2)]
            · rename_i h2
              rw [hs2] at h2
              exact h2
          · rintro T2 H2 n2 hf2 hi2 rfl hp2
            have g5 : T2 5 = .i64 j := (hf2 5 rfl).trans hi
            clear hf2
            simp only [go_sem, reduceIte, Nat.reduceEqDiff, Nat.reduceAdd, Nat.reduceLeDiff, Nat.reduceLT, g5, hi2, hH, Int.lt_irrefl, decide_false, wrap_succ (show j < 4611686018427387904 by omega)]
            exact ⟨⟨h.1.1, ⟨by omega, by omega⟩, hp2⟩, rfl⟩
      · rintro T' H' n' hf hi hH hp
        have hb : T' 1 = .ptr 0 0 := hf 1 rfl
        have h4 : T' 4 = .s (s2.sv intRow) := hf 4 rfl
        clear hf
        simp only [go_sem, reduceIte, Nat.reduceEqDiff, Nat.reduceAdd, Nat.reduceLeDiff, Nat.reduceLT, hb, h4, hi, hH, Int.lt_irrefl, decide_false, Cat.row]
        refine WP_scan rfl 7 c.tabs.l.length (fun j => TabR (c.tabs.l.getD j default) ∧ (0 < j → (c.tabs.l.getD (j - 1) default).id < (c.tabs.l.getD j default).id)) (fun _ T H n => H = H') rfl rfl ?_ ?_
        · rintro j T2 H2 n2 hlt hf2 hi2 rfl _
          have g1 : T2 1 = .ptr 0 0 := (hf2 1 rfl).trans hb
          clear hf2
          have e1 : IntKind.i64.wrap ((j : Int) - 1) = (j : Int) - 1 := wrap_in (by omega) (by omega)
          have e2 : ((j : Int) - 1).toNat = j - 1 := by omega
          have e3 : j - 1 < c.tabs.l.length := by omega
          simp only [go_sem, reduceIte, Nat.reduceEqDiff, Nat.reduceAdd, Nat.reduceLeDiff, Nat.reduceLT, g1, hi2, hH, Int.ofNat_lt, hlt, decide_true, ia_tab, Cat.row, Tab.row]
          refine WC_p rfl rfl (t54 _ (hc.tab j hlt)) ?_
          simp only [go_sem, reduceIte, Nat.reduceEqDiff, Nat.reduceAdd, Nat.reduceLeDiff, Nat.reduceLT, g1, hi2, hH, Int.ofNat_lt, hlt, decide_true, ia_tab, Cat.row, Tab.row, e1, e2, e3]
          refine ⟨.inr fun h => ?_, ?_⟩
          · rw [decide_eq_true_eq] at h; omega
          · split
            · rename_i h
              rw [tf_not]
              intro hh
              obtain ⟨k1, k2⟩ := hh.tab j hlt
              rw [tf_of k1] at h
              simp only [Bool.not_true, Bool.false_or, Bool.and_eq_true, decide_eq_true_eq] at h
              have := k2 (by omega)
              omega
            · rename_i h
              simp only [wrap_succ (show j < 4611686018427387904 by omega)]
              simp only [Bool.or_eq_true, Bool.and_eq_true, decide_eq_true_eq, not_or, Bool.not_eq_true', Bool.not_eq_false, tf_iff] at h
              exact ⟨⟨h.1, fun h0 => by omega⟩, trivial⟩
        · rintro T2 H2 n2 hf2 hi2 rfl hp2
          have g1 : T2 1 = .ptr 0 0 := (hf2 1 rfl).trans hb
          clear hf2
          simp only [go_sem, reduceIte, Nat.reduceEqDiff, Nat.reduceAdd, Nat.reduceLeDiff, Nat.reduceLT, g1, hi2, hH, Int.lt_irrefl, decide_false, Cat.row]
          refine WP_scan rfl 8 c.views.l.length (fun j => (1 ≤ (c.views.l.getD j default).text.length ∧ (c.views.l.getD j default).text.length ≤ 16384) ∧ (0 < j → (c.views.l.getD (j - 1) default).id < (c.views.l.getD j default).id)) (fun _ T H n => H = H2) rfl rfl ?_ ?_
          · rintro j T3 H3 n3 hlt hf3 hi3 rfl _
            have g1 : T3 1 = .ptr 0 0 := (hf3 1 rfl).trans g1
            clear hf3
            have e1 : IntKind.i64.wrap ((j : Int) - 1) = (j : Int) - 1 := wrap_in (by omega) (by omega)
            have e2 : ((j : Int) - 1).toNat = j - 1 := by omega
            have e3 : j - 1 < c.views.l.length := by omega
            simp only [go_sem, reduceIte, Nat.reduceEqDiff, Nat.reduceAdd, Nat.reduceLeDiff, Nat.reduceLT, g1, hi3, hH, Int.ofNat_lt, hlt, decide_true, ia_viw, Cat.row, Viw.row, e1, e2, e3]
            refine ⟨.inr fun h => ?_, ?_⟩
            · rw [decide_eq_true_eq] at h; omega
            · split
              · rename_i h
                rw [tf_not]
                intro hh
                obtain ⟨k1, k2⟩ := hh.view j hlt
                simp only [Bool.or_eq_true, Bool.and_eq_true, decide_eq_true_eq] at h
                by_cases hj : 0 < j
                · have := k2 hj; omega
                · omega
              · rename_i h
                simp only [wrap_succ (show j < 4611686018427387904 by omega)]
                simp only [Bool.or_eq_true, Bool.and_eq_true, decide_eq_true_eq, not_or] at h
                exact ⟨⟨⟨by omega, by omega⟩, fun h0 => by omega⟩, trivial⟩
          · rintro T3 H3 n3 hf3 hi3 rfl hp3
            have g1 : T3 1 = .ptr 0 0 := (hf3 1 rfl).trans g1
            clear hf3
            simp only [go_sem, reduceIte, Nat.reduceEqDiff, Nat.reduceAdd, Nat.reduceLeDiff, Nat.reduceLT, g1, hi3, hH, Int.lt_irrefl, decide_false, Cat.row]
            rw [tf_of (p := ValidR c) ⟨by omega, by omega, by omega, hd1, fun j hj => hp j (by rw [hs2]; exact hj), hp2, hp3⟩]
end Go.Vm
