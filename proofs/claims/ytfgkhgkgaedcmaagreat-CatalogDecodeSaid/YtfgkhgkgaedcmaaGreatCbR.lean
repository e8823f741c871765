/- Comparisons. -/
import Derived.Test.YtfgkhgkgaedcmaaGreatCbJ
import Derived.Test.YtfgkhgkgaedcmaaGreatCbN
set_option linter.unusedVariables false
set_option linter.unusedSimpArgs false
set_option maxRecDepth 100000
namespace Go.Vm

theorem ia_byte {s : Slc UInt8} {H : Ob} {k : IntKind} {i : Int} : indexAM (.sl 1) H (.s (s.sv bRow)) (.s (.int k i)) = gd (0 ≤ i ∧ i < s.l.length) (.eptr (s.l.map bRow) i.toNat 0) := ia_sv (fun _ => rfl) (by decide)
theorem sameInts (a b : Slc Int) (h : a.l = b.l) (hl : a.l.length ≤ 1073741824) : calL EE 74 [.s (a.sv intRow), .s (b.sv intRow)] [] = some (.ret (.bool true), []) := by
  refine fn_ok f74 (by simp) ?_
  unfold c74
  simp only [go_sem, reduceIte, Nat.reduceEqDiff, Nat.reduceAdd, Nat.reduceLeDiff, Nat.reduceLT, h, decide_true, Bool.not_true, Bool.false_eq_true]
  rw [h] at hl
  refine WP_scan rfl 5 b.l.length (fun _ => True) (fun _ _ _ _ => True) rfl trivial ?_ ?_
  · rintro j T' H' n' hlt hf hi _ _
    have h0 : T' 0 = .s (a.sv intRow) := hf 0 rfl
    have h1 : T' 1 = .s (b.sv intRow) := hf 1 rfl
    clear hf
    simp only [go_sem, reduceIte, Nat.reduceEqDiff, Nat.reduceAdd, Nat.reduceLeDiff, Nat.reduceLT, h0, h1, h, hi, Int.ofNat_lt, hlt, decide_true, ia_int, intRow, Bool.not_true, Bool.false_eq_true, wrap_succ (show j < 4611686018427387904 by omega)]
  · rintro T' H' n' hf hi _ _
    have h0 : T' 0 = .s (a.sv intRow) := hf 0 rfl
    clear hf
    simp only [go_sem, reduceIte, Nat.reduceEqDiff, Nat.reduceAdd, Nat.reduceLeDiff, Nat.reduceLT, h0, h, hi, Int.lt_irrefl, decide_false]
theorem sameBytes (a b : Slc UInt8) (h : a.l = b.l) (hl : a.l.length ≤ 1073741824) : calL EE 31 [.s (a.sv bRow), .s (b.sv bRow)] [] = some (.ret (.i64 0), []) := by
  refine fn_ok f31 (by simp) ?_
  unfold c31
  simp only [go_sem, reduceIte, Nat.reduceEqDiff, Nat.reduceAdd, Nat.reduceLeDiff, Nat.reduceLT]
  rw [h] at hl
  refine WP_scan rfl 5 b.l.length (fun _ => True) (fun _ _ _ _ => True) rfl trivial ?_ ?_
  · rintro j T' H' n' hlt hf hi _ _
    have h0 : T' 0 = .s (a.sv bRow) := hf 0 rfl
    have h1 : T' 1 = .s (b.sv bRow) := hf 1 rfl
    clear hf
    simp only [go_sem, reduceIte, Nat.reduceEqDiff, Nat.reduceAdd, Nat.reduceLeDiff, Nat.reduceLT, h0, h1, h, hi, Int.ofNat_lt, hlt, decide_true, ia_byte, bRow, Nat.lt_irrefl, decide_false, Bool.false_eq_true, wrap_succ (show j < 4611686018427387904 by omega)]
  · rintro T' H' n' hf hi _ _
    have h0 : T' 0 = .s (a.sv bRow) := hf 0 rfl
    have h1 : T' 1 = .s (b.sv bRow) := hf 1 rfl
    clear hf
    simp only [go_sem, reduceIte, Nat.reduceEqDiff, Nat.reduceAdd, Nat.reduceLeDiff, Nat.reduceLT, h0, h1, h, hi, Int.lt_irrefl, decide_false]
theorem sameSame (a b : Slc UInt8) (h : a.l = b.l) (hl : a.l.length ≤ 1073741824) : calL EE 10 [.s (a.sv bRow), .s (b.sv bRow)] [] = some (.ret (.bool true), []) := by
  refine fn_ok f10 (by simp) ?_
  unfold c10
  simp only [go_sem, reduceIte, Nat.reduceEqDiff, Nat.reduceAdd, Nat.reduceLeDiff, Nat.reduceLT]
  refine WC_p rfl rfl (sameBytes a b h hl) ?_
  simp only [go_sem, reduceIte, Nat.reduceEqDiff, Nat.reduceAdd, Nat.reduceLeDiff, Nat.reduceLT, decide_true]
theorem bytesEq (a b : Slc UInt8) (hl : a.l.length ≤ 1073741824) (hl2 : b.l.length ≤ 1073741824) : calL EE 30 [.s (a.sv bRow), .s (b.sv bRow)] [] = some (.ret (.bool (decide (a.l = b.l))), []) := by
  refine fn_ok f30 (by simp) ?_
  unfold c30
  simp only [go_sem, reduceIte, Nat.reduceEqDiff, Nat.reduceAdd, Nat.reduceLeDiff, Nat.reduceLT]
  split
  · rename_i h
    have : a.l ≠ b.l := fun e => by rw [e] at h; simp at h
    rw [decide_eq_false this]
  · rename_i h
    have hlen : a.l.length = b.l.length := by simp at h; omega
    refine WP_scan rfl 13 a.l.length (fun j => a.l.getD j default = b.l.getD j default) (fun _ _ _ _ => True) rfl trivial ?_ ?_
    · rintro j T' H' n' hlt hf hi _ _
      have h0 : T' 0 = .s (a.sv bRow) := hf 0 rfl
      have h1 : T' 1 = .s (b.sv bRow) := hf 1 rfl
      have h12 : T' 12 = .i64 a.l.length := hf 12 rfl
      clear hf
      have hlt2 : j < b.l.length := by omega
      simp only [go_sem, reduceIte, Nat.reduceEqDiff, Nat.reduceAdd, Nat.reduceLeDiff, Nat.reduceLT, h0, h1, h12, hi, Int.ofNat_lt, hlt, hlt2, decide_true, ia_byte, bRow, wrap_succ (show j < 4611686018427387904 by omega)]
      split
      · rename_i h5
        have : a.l ≠ b.l := fun e => by rw [e] at h5; simp at h5
        rw [decide_eq_false this]
      · rename_i h5
        have h6 : (a.l.getD j 0).toNat = (b.l.getD j 0).toNat := by
          simp only [Bool.not_eq_true', decide_eq_false_iff_not, Classical.not_not] at h5
          omega
        exact UInt8.toNat_inj.1 h6
    · rintro T' H' n' hf hi _ hp
      have h12 : T' 12 = .i64 a.l.length := hf 12 rfl
      clear hf
      simp only [go_sem, reduceIte, Nat.reduceEqDiff, Nat.reduceAdd, Nat.reduceLeDiff, Nat.reduceLT, h12, hi, Int.lt_irrefl, decide_false]
      rw [decide_eq_true]
      refine List.ext_getElem? fun i => ?_
      by_cases hi : i < a.l.length
      · have := hp i hi
        rw [List.getD_eq_getElem?_getD, List.getD_eq_getElem?_getD, List.getElem?_eq_getElem hi, List.getElem?_eq_getElem (by omega)] at this
        rw [List.getElem?_eq_getElem hi, List.getElem?_eq_getElem (by omega)]
        exact congrArg some this
      · rw [List.getElem?_eq_none (by omega), List.getElem?_eq_none (by omega)]
structure SameX (x y : Idx) : Prop where
  id : x.id = y.id
  name : x.name = y.name
  cols : x.cols.l = y.cols.l
structure SameT (x y : Tab) : Prop where
  id : x.id = y.id
  name : x.name = y.name
  cols : x.cols.l = y.cols.l
  key : x.key.l = y.key.l
  len : x.idx.l.length = y.idx.l.length
  idx : ∀ j, j < x.idx.l.length → SameX (x.idx.l.getD j default) (y.idx.l.getD j default)
structure SameC (a b : Cat) : Prop where
  next : a.next = b.next
  len : a.tabs.l.length = b.tabs.l.length
  tabs : ∀ j, j < a.tabs.l.length → SameT (a.tabs.l.getD j default) (b.tabs.l.getD j default)
  views : a.views.l = b.views.l
theorem svEqs_col (x : Col) : svEqs [2, 1] [.str x.name, .int .i64 x.ty] [.str x.name, .int .i64 x.ty] = some true := by simp [svEqs, svEq]
theorem svEqs_viw (x : Viw) : svEqs [1, 2, 2, 0] [.int .i64 x.id, .str x.name, .str x.text, .bool x.mat] [.int .i64 x.id, .str x.name, .str x.text, .bool x.mat] = some true := by simp [svEqs, svEq]
theorem sameT (a b : Tab) (h : SameT a b) (hf : FewT a) : calL EE 35 [.st a.row, .st b.row] [] = some (.ret (.bool true), []) := by
  refine fn_ok f35 (by simp) ?_
  unfold c35
  have hc := hf.cols
  have hi := hf.idx
  have hk := hf.key
  simp only [go_sem, reduceIte, Nat.reduceEqDiff, Nat.reduceAdd, Nat.reduceLeDiff, Nat.reduceLT, Tab.row, h.id, h.name, h.cols, h.len, decide_true, Bool.not_true, Bool.false_eq_true]
  refine WC_p rfl rfl (sameInts a.key b.key h.key (by omega)) ?_
  simp only [go_sem, reduceIte, Nat.reduceEqDiff, Nat.reduceAdd, Nat.reduceLeDiff, Nat.reduceLT, h.len, decide_true, Bool.not_true, Bool.false_eq_true]
  generalize hba : HObj.box 47 _ = ba
  generalize hbb : HObj.box 47 _ = bb
  have d1 := h.cols
  have d2 := h.len
  have hc1 : b.cols.l.length ≤ 401 := by rw [← d1]; exact hc
  have hi1 : b.idx.l.length ≤ 401 := by rw [← d2]; exact hi
  refine WP_scan rfl 5 b.cols.l.length (fun _ => True) (fun _ T H n => H 0 = ba ∧ H 1 = bb ∧ 2 ≤ n) rfl ⟨rfl, rfl, by omega⟩ ?_ ?_
  · rintro j T' H' n' hlt hf1 hi1 ⟨hA, hB, hn⟩ _
    have g2 : T' 2 = .ptr 0 0 := hf1 2 rfl
    have g3 : T' 3 = .ptr 1 0 := hf1 3 rfl
    clear hf1
    have hA' := hA
    have hB' := hB
    rw [← hba] at hA'
    rw [← hbb] at hB'
    simp only [go_sem, reduceIte, Nat.reduceEqDiff, Nat.reduceAdd, Nat.reduceLeDiff, Nat.reduceLT, g2, g3, hA', hB', d1, hi1, Int.ofNat_lt, hlt, decide_true, ia_col, Col.row, flat_neq, svEqs_col, Bool.not_true, Bool.false_eq_true, wrap_succ (show j < 4611686018427387904 by omega)]
    exact ⟨hba, hbb⟩
  · rintro T' H' n' hf1 hi2 ⟨hA, hB, hn⟩ _
    have g2 : T' 2 = .ptr 0 0 := hf1 2 rfl
    have g3 : T' 3 = .ptr 1 0 := hf1 3 rfl
    clear hf1
    have hA' := hA
    have hB' := hB
    rw [← hba] at hA'
    rw [← hbb] at hB'
    simp only [go_sem, reduceIte, Nat.reduceEqDiff, Nat.reduceAdd, Nat.reduceLeDiff, Nat.reduceLT, g2, hA', d1, hi2, Int.lt_irrefl, decide_false]
    refine WP_scan rfl 6 b.idx.l.length (fun _ => True) (fun _ T H n => H 0 = ba ∧ H 1 = bb ∧ 2 ≤ n) rfl ⟨hA, hB, by omega⟩ ?_ ?_
    · rintro j T7 H7 n7 hlt hf7 hi7 ⟨hA, hB, hn⟩ _
      have k2 : T7 2 = .ptr 0 0 := (hf7 2 rfl).trans g2
      have k3 : T7 3 = .ptr 1 0 := (hf7 3 rfl).trans g3
      clear hf7
      have hA' := hA
      have hB' := hB
      rw [← hba] at hA'
      rw [← hbb] at hB'
      have hx := h.idx j (by omega)
      have hfx := hf.ix j (by omega)
      simp only [go_sem, reduceIte, Nat.reduceEqDiff, Nat.reduceAdd, Nat.reduceLeDiff, Nat.reduceLT, k2, k3, hA', hB', d2, hi7, Int.ofNat_lt, hlt, decide_true, ia_idx, Idx.row, hx.id, hx.name, Bool.not_true, Bool.false_eq_true]
      refine WC_p rfl rfl (sameInts _ _ hx.cols (by have := hfx.2; omega)) ?_
      simp only [go_sem, reduceIte, Nat.reduceEqDiff, Nat.reduceAdd, Nat.reduceLeDiff, Nat.reduceLT, hi7, wrap_succ (show j < 4611686018427387904 by omega)]
      exact ⟨hA, hB⟩
    · rintro T7 H7 n7 hf7 hi7 ⟨hA, hB, hn⟩ _
      have k2 : T7 2 = .ptr 0 0 := (hf7 2 rfl).trans g2
      clear hf7
      rw [← hba] at hA
      simp only [go_sem, reduceIte, Nat.reduceEqDiff, Nat.reduceAdd, Nat.reduceLeDiff, Nat.reduceLT, k2, hA, d2, hi7, Int.lt_irrefl, decide_false]
theorem sameC (a b : Cat) (h : SameC a b) (hf : FewC a) : calL EE 12 [.st a.row, .st b.row] [] = some (.ret (.bool true), []) := by
  refine fn_ok f12 (by simp) ?_
  unfold c12
  have ht := hf.tabs
  have hv := hf.views
  simp only [go_sem, reduceIte, Nat.reduceEqDiff, Nat.reduceAdd, Nat.reduceLeDiff, Nat.reduceLT, Cat.row, h.next, h.len, h.views, decide_true, Bool.not_true, Bool.false_eq_true]
  generalize hba : HObj.box 25 _ = ba
  generalize hbb : HObj.box 25 _ = bb
  have d1 := h.len
  have d2 := h.views
  have ht1 : b.tabs.l.length ≤ 401 := by rw [← d1]; exact ht
  have hv1 : b.views.l.length ≤ 401 := by rw [← d2]; exact hv
  refine WP_scan rfl 5 b.tabs.l.length (fun _ => True) (fun _ T H n => H 0 = ba ∧ H 1 = bb ∧ 2 ≤ n) rfl ⟨rfl, rfl, by omega⟩ ?_ ?_
  · rintro j T' H' n' hlt hf1 hi1 ⟨hA, hB, hn⟩ _
    have g2 : T' 2 = .ptr 0 0 := hf1 2 rfl
    have g3 : T' 3 = .ptr 1 0 := hf1 3 rfl
    clear hf1
    have hA' := hA
    have hB' := hB
    rw [← hba] at hA'
    rw [← hbb] at hB'
    have hx := h.tabs j (by omega)
    have hfx := hf.tab j (by omega)
    simp only [go_sem, reduceIte, Nat.reduceEqDiff, Nat.reduceAdd, Nat.reduceLeDiff, Nat.reduceLT, g2, g3, hA', hB', d1, hi1, Int.ofNat_lt, hlt, decide_true, ia_tab, Bool.not_true, Bool.false_eq_true]
    refine ⟨⟨Nat.le_refl 5, Nat.le_refl 5⟩, ?_⟩
    refine WC_p rfl rfl (sameT _ _ hx hfx) ?_
    simp only [go_sem, reduceIte, Nat.reduceEqDiff, Nat.reduceAdd, Nat.reduceLeDiff, Nat.reduceLT, hi1, wrap_succ (show j < 4611686018427387904 by omega)]
    exact ⟨hA, hB⟩
  · rintro T' H' n' hf1 hi2 ⟨hA, hB, hn⟩ _
    have g2 : T' 2 = .ptr 0 0 := hf1 2 rfl
    have g3 : T' 3 = .ptr 1 0 := hf1 3 rfl
    clear hf1
    have hA' := hA
    rw [← hba] at hA'
    simp only [go_sem, reduceIte, Nat.reduceEqDiff, Nat.reduceAdd, Nat.reduceLeDiff, Nat.reduceLT, g2, hA', d1, hi2, Int.lt_irrefl, decide_false]
    refine WP_scan rfl 6 b.views.l.length (fun _ => True) (fun _ T H n => H 0 = ba ∧ H 1 = bb ∧ 2 ≤ n) rfl ⟨hA, hB, by omega⟩ ?_ ?_
    · rintro j T7 H7 n7 hlt hf7 hi7 ⟨hA, hB, hn⟩ _
      have k2 : T7 2 = .ptr 0 0 := (hf7 2 rfl).trans g2
      have k3 : T7 3 = .ptr 1 0 := (hf7 3 rfl).trans g3
      clear hf7
      have hA' := hA
      have hB' := hB
      rw [← hba] at hA'
      rw [← hbb] at hB'
      simp only [go_sem, reduceIte, Nat.reduceEqDiff, Nat.reduceAdd, Nat.reduceLeDiff, Nat.reduceLT, k2, k3, hA', hB', d2, hi7, Int.ofNat_lt, hlt, decide_true, ia_viw, Viw.row, flat_neq, svEqs_viw, Bool.not_true, Bool.false_eq_true, wrap_succ (show j < 4611686018427387904 by omega)]
      exact ⟨hba, hbb⟩
    · rintro T7 H7 n7 hf7 hi7 ⟨hA, hB, hn⟩ _
      have k2 : T7 2 = .ptr 0 0 := (hf7 2 rfl).trans g2
      clear hf7
      rw [← hba] at hA
      simp only [go_sem, reduceIte, Nat.reduceEqDiff, Nat.reduceAdd, Nat.reduceLeDiff, Nat.reduceLT, k2, hA, d2, hi7, Int.lt_irrefl, decide_false]
end Go.Vm
