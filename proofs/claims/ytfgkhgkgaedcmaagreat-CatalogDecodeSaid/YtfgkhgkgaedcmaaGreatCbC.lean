/- Small catalogs. -/
import Derived.Test.YtfgkhgkgaedcmaaGreatCbB
set_option linter.unusedVariables false
set_option linter.unusedSimpArgs false
set_option maxRecDepth 100000
namespace Go.Vm

theorem ia_tab {s : Slc Tab} {H : Ob} {k : IntKind} {i : Int} : indexAM (.sl 5) H (.s (s.sv Tab.row)) (.s (.int k i)) = gd (0 ≤ i ∧ i < s.l.length) (.eptr (s.l.map Tab.row) i.toNat 0) := ia_sv (fun _ => rfl) (by decide)
theorem ia_col {s : Slc Col} {H : Ob} {k : IntKind} {i : Int} : indexAM (.sl 2) H (.s (s.sv Col.row)) (.s (.int k i)) = gd (0 ≤ i ∧ i < s.l.length) (.eptr (s.l.map Col.row) i.toNat 0) := ia_sv (fun _ => rfl) (by decide)
theorem ia_idx {s : Slc Idx} {H : Ob} {k : IntKind} {i : Int} : indexAM (.sl 3) H (.s (s.sv Idx.row)) (.s (.int k i)) = gd (0 ≤ i ∧ i < s.l.length) (.eptr (s.l.map Idx.row) i.toNat 0) := ia_sv (fun _ => rfl) (by decide)
theorem ia_viw {s : Slc Viw} {H : Ob} {k : IntKind} {i : Int} : indexAM (.sl 4) H (.s (s.sv Viw.row)) (.s (.int k i)) = gd (0 ≤ i ∧ i < s.l.length) (.eptr (s.l.map Viw.row) i.toNat 0) := ia_sv (fun _ => rfl) (by decide)
theorem ia_int {s : Slc Int} {H : Ob} {k : IntKind} {i : Int} : indexAM (.sl 1) H (.s (s.sv intRow)) (.s (.int k i)) = gd (0 ≤ i ∧ i < s.l.length) (.eptr (s.l.map intRow) i.toNat 0) := ia_sv (fun _ => rfl) (by decide)
theorem ia_str {s : Slc (List UInt8)} {H : Ob} {k : IntKind} {i : Int} : indexAM (.sl 1) H (.s (s.sv strRow)) (.s (.int k i)) = gd (0 ≤ i ∧ i < s.l.length) (.eptr (s.l.map strRow) i.toNat 0) := ia_sv (fun _ => rfl) (by decide)

def FewX (x : Idx) : Prop := x.name.length ≤ 401 ∧ x.cols.l.length ≤ 401
structure FewT (t : Tab) : Prop where
  name : t.name.length ≤ 401
  cols : t.cols.l.length ≤ 401
  key : t.key.l.length ≤ 401
  idx : t.idx.l.length ≤ 401
  col : ∀ j, j < t.cols.l.length → (t.cols.l.getD j default).name.length ≤ 401
  ix : ∀ j, j < t.idx.l.length → FewX (t.idx.l.getD j default)
structure FewC (c : Cat) : Prop where
  tabs : c.tabs.l.length ≤ 401
  views : c.views.l.length ≤ 401
  tab : ∀ j, j < c.tabs.l.length → FewT (c.tabs.l.getD j default)
  view : ∀ j, j < c.views.l.length → (c.views.l.getD j default).name.length ≤ 401 ∧ (c.views.l.getD j default).text.length ≤ 20000

theorem t10 (c : Cat) : ∃ v, calL EE 6 [.st c.row] [] = some (.ret v, []) ∧ ∃ b, v = .bool b ∧ (b = true → FewC c) := by
  refine fn_ex f6 (by simp) ?_
  unfold c6
  simp only [go_sem, reduceIte, Nat.reduceEqDiff, Nat.reduceAdd, Nat.reduceLeDiff, Nat.reduceLT, Cat.row]
  split
  · exact ⟨false, rfl, fun h => by cases h⟩
  · rename_i h1
    simp only [Bool.or_eq_true, decide_eq_true_eq, not_or] at h1
    refine WP_scan rfl 3 c.tabs.l.length (fun j => FewT (c.tabs.l.getD j default)) (fun _ T H n => H 0 = .box 25 (c.row.map .s) ∧ 1 ≤ n) rfl ⟨rfl, by simp⟩ ?_ ?_
    · rintro j T' H' n' hlt hf hi ⟨hH, hn⟩ hp
      have hb : T' 1 = .ptr 0 0 := hf 1 rfl
      clear hf hp
      simp only [go_sem, reduceIte, Nat.reduceEqDiff, Nat.reduceAdd, Nat.reduceLeDiff, Nat.reduceLT, hb, hi, hH, Int.ofNat_lt, hlt, wrap_succ (show j < 4611686018427387904 by omega), decide_true, ia_tab, Tab.row, Cat.row]
      generalize ht : c.tabs.l.getD j default = t
      split
      · exact ⟨false, rfl, fun h => by cases h⟩
      · rename_i h2
        simp only [Bool.or_eq_true, decide_eq_true_eq, not_or] at h2
        generalize hH1 : H'.set _ _ = H1
        have hA : H1 0 = .box 25 (c.row.map .s) := by rw [← hH1, set_at, if_neg (by omega), hH]
        have hB : H1 (n' + 5 + 5) = .box 47 (t.row.map .s) := by rw [← hH1, set_at, if_pos rfl]; rfl
        clear hH1 hH
        refine WP_scan rfl 5 t.cols.l.length (fun j => (t.cols.l.getD j default).name.length ≤ 401) (fun _ T H n => H = H1 ∧ n' ≤ n) rfl ⟨rfl, by omega⟩ ?_ ?_
        · rintro j2 T2 H2 n2 hlt2 hf2 hi2 ⟨rfl, hn2⟩ hp2
          have h4 : T2 4 = .ptr (n' + 5 + 5) 0 := hf2 4 rfl
          clear hf2 hp2
          simp only [go_sem, reduceIte, Nat.reduceEqDiff, Nat.reduceAdd, Nat.reduceLeDiff, Nat.reduceLT, h4, hi2, hB, Int.ofNat_lt, hlt2, wrap_succ (show j2 < 4611686018427387904 by omega), decide_true, ia_col, Tab.row, Col.row]
          split
          · exact ⟨false, rfl, fun h => by cases h⟩
          · rename_i h3
            simp only [decide_eq_true_eq] at h3
            exact ⟨by omega, by omega⟩
        · rintro T2 H2 n2 hf2 hi2 ⟨rfl, hn2⟩ hp2
          have h4 : T2 4 = .ptr (n' + 5 + 5) 0 := hf2 4 rfl
          have h1' : T2 1 = .ptr 0 0 := (hf2 1 rfl).trans hb
          have h3' : T2 3 = .i64 j := (hf2 3 rfl).trans hi
          clear hf2
          simp only [go_sem, reduceIte, Nat.reduceEqDiff, Nat.reduceAdd, Nat.reduceLeDiff, Nat.reduceLT, h4, hi2, hB, Int.lt_irrefl, decide_false, Tab.row]
          refine WP_scan rfl 6 t.idx.l.length (fun j => FewX (t.idx.l.getD j default)) (fun _ T H n => H = H2 ∧ n' ≤ n) rfl ⟨rfl, by omega⟩ ?_ ?_
          · rintro j3 T3 H3 n3 hlt3 hf3 hi3 ⟨rfl, hn3⟩ hp3
            have g4 : T3 4 = .ptr (n' + 5 + 5) 0 := (hf3 4 rfl).trans h4
            clear hf3 hp3
            simp only [go_sem, reduceIte, Nat.reduceEqDiff, Nat.reduceAdd, Nat.reduceLeDiff, Nat.reduceLT, g4, hi3, hB, Int.ofNat_lt, hlt3, wrap_succ (show j3 < 4611686018427387904 by omega), decide_true, ia_idx, Tab.row, Idx.row]
            split
            · exact ⟨false, rfl, fun h => by cases h⟩
            · rename_i h3
              simp only [Bool.or_eq_true, decide_eq_true_eq, not_or] at h3
              exact ⟨⟨by omega, by omega⟩, by omega⟩
          · rintro T3 H3 n3 hf3 hi3 ⟨rfl, hn3⟩ hp3
            have g4 : T3 4 = .ptr (n' + 5 + 5) 0 := (hf3 4 rfl).trans h4
            have g3 : T3 3 = .i64 j := (hf3 3 rfl).trans h3'
            clear hf3
            simp only [go_sem, reduceIte, Nat.reduceEqDiff, Nat.reduceAdd, Nat.reduceLeDiff, Nat.reduceLT, g4, hi3, g3, hB, Int.lt_irrefl, decide_false, Tab.row, wrap_succ (show j < 4611686018427387904 by omega)]
            exact ⟨by rw [ht]; exact ⟨by omega, by omega, by omega, by omega, hp2, hp3⟩, hA⟩
    · rintro T' H' n' hf hi ⟨hH, hn⟩ hp
      have hb : T' 1 = .ptr 0 0 := hf 1 rfl
      clear hf
      simp only [go_sem, reduceIte, Nat.reduceEqDiff, Nat.reduceAdd, Nat.reduceLeDiff, Nat.reduceLT, hb, hi, hH, Int.lt_irrefl, decide_false, Cat.row]
      refine WP_scan rfl 7 c.views.l.length (fun j => (c.views.l.getD j default).name.length ≤ 401 ∧ (c.views.l.getD j default).text.length ≤ 20000) (fun _ T H n => H = H') rfl rfl ?_ ?_
      · rintro j2 T2 H2 n2 hlt2 hf2 hi2 rfl hp2
        have h4 : T2 1 = .ptr 0 0 := (hf2 1 rfl).trans hb
        clear hf2 hp2
        simp only [go_sem, reduceIte, Nat.reduceEqDiff, Nat.reduceAdd, Nat.reduceLeDiff, Nat.reduceLT, h4, hi2, hH, Int.ofNat_lt, hlt2, wrap_succ (show j2 < 4611686018427387904 by omega), decide_true, ia_viw, Viw.row, Cat.row]
        split
        · exact ⟨false, rfl, fun h => by cases h⟩
        · rename_i h3
          simp only [Bool.or_eq_true, decide_eq_true_eq, not_or] at h3
          exact ⟨by omega, by omega⟩
      · rintro T2 H2 n2 hf2 hi2 rfl hp2
        have h4 : T2 1 = .ptr 0 0 := (hf2 1 rfl).trans hb
        clear hf2
        simp only [go_sem, reduceIte, Nat.reduceEqDiff, Nat.reduceAdd, Nat.reduceLeDiff, Nat.reduceLT, h4, hi2, hH, Int.lt_irrefl, decide_false, Cat.row]
        exact ⟨true, rfl, fun _ => ⟨by omega, by omega, hp, hp2⟩⟩
end Go.Vm
