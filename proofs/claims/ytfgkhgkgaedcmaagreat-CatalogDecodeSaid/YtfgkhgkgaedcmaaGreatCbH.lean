/- The program's validity. -/
import Derived.Test.YtfgkhgkgaedcmaaGreatCbG
set_option linter.unusedVariables false
set_option linter.unusedSimpArgs false
set_option maxRecDepth 100000
namespace Go.Vm

noncomputable def tf (p : Prop) : Bool := @decide p (Classical.propDecidable p)
theorem tf_iff {p : Prop} : tf p = true ↔ p := @decide_eq_true_iff p (Classical.propDecidable p)
theorem tf_of {p : Prop} (h : p) : tf p = true := tf_iff.2 h
theorem tf_not {p : Prop} (h : ¬ p) : tf p = false := Bool.eq_false_iff.2 (fun e => h (tf_iff.1 e))
theorem tf_eq {b : Bool} {p : Prop} (h : b = true ↔ p) : b = tf p := by
  rw [Bool.eq_iff_iff, tf_iff]; exact h

def ColOk (c : Col) : Prop := vname c.name = true ∧ 0 ≤ c.ty ∧ c.ty ≤ 2
structure ColsOk (l : List Col) : Prop where
  col : ∀ j, j < l.length → ColOk (l.getD j default)
  lo : 1 ≤ l.length
  hi : l.length ≤ 16
  nodup : (l.map (·.name)).Nodup
structure IdxsOk (l : List Int) (n : Int) : Prop where
  at_ : ∀ j, j < l.length → 0 ≤ l.getD j default ∧ l.getD j default < n
  nodup : l.Nodup
def badCol (c : Col) : Bool := !(vname c.name) || decide (c.ty < 0) || decide (2 < c.ty)

theorem t111 (c : Col) (hc : c.name.length ≤ 1073741824) : calL EE 75 [.st c.row] [] = some (.ret (.bool (badCol c)), []) := by
  refine fn_ok f75 (by simp) ?_
  unfold c75
  simp only [go_sem, reduceIte, Nat.reduceEqDiff, Nat.reduceAdd, Nat.reduceLeDiff, Nat.reduceLT, Col.row]
  refine WC_p rfl rfl (t13 _ hc) ?_
  simp only [go_sem, reduceIte, Nat.reduceEqDiff, Nat.reduceAdd, Nat.reduceLeDiff, Nat.reduceLT, Col.row]
  rfl
theorem t113 (s : Slc Col) (hs : s.l.length ≤ 1073741823) : ∃ v, calL EE 77 [.s (s.sv Col.row)] [] = some (.ret v, []) ∧ ∃ s2 : Slc (List UInt8), v = .s (s2.sv strRow) ∧ s2.l = s.l.map (·.name) := by
  refine fn_ex f77 (by simp) ?_
  unfold c77
  simp only [go_sem, reduceIte, Nat.reduceEqDiff, Nat.reduceAdd, Nat.reduceLeDiff, Nat.reduceLT]
  refine WP_scan rfl 8 s.l.length (fun j => True) (fun j T H n => Own 0 9 1 H n (T 3) (((s.l.take j).map (·.name)).map strRow)) rfl .nil ?_ ?_
  · rintro j T' H' n' hlt hf hi ho _
    have h6 : T' 6 = .s (s.sv Col.row) := hf 6 rfl
    have h7 : T' 7 = .i64 s.l.length := hf 7 rfl
    clear hf
    simp only [go_sem, reduceIte, Nat.reduceEqDiff, Nat.reduceAdd, Nat.reduceLeDiff, Nat.reduceLT, h6, h7, hi, Int.ofNat_lt, hlt, wrap_succ (show j < 4611686018427387904 by omega), decide_true, ia_col, Col.row]
    have ho2 := ho.kept (H' := H'.set (n' + 1 + 2) (HObj.box 40 (List.map PV.s [SV.str (s.l.getD j default).name, SV.int IntKind.i64 (s.l.getD j default).ty]))) (Nat.le_refl _) (fun x _ hx => by rw [set_at, if_neg (by omega)])
    refine WX_app ho2 rows_slice (by simp) (by simp only [List.length_append, List.length_map, List.length_cons, List.length_nil, List.length_take]; omega) (by omega) (by omega) ?_
    intro p1 H1 ho1 hfr1 hof1
    simp only [go_sem, reduceIte, Nat.reduceEqDiff, Nat.reduceAdd, Nat.reduceLeDiff, Nat.reduceLT, hi, wrap_succ (show j < 4611686018427387904 by omega)]
    have := ho1.kept (n' := n' + 1 + 2 + 1 + 1 + 3 + 1 + 1 + 1 + 2) (by omega) (fun _ _ _ => rfl)
    rw [take_step default hlt]
    simp only [List.map_append, List.map_cons, List.map_nil, List.append_assoc, List.cons_append, List.nil_append, List.flatMap_append, List.flatMap_cons, List.flatMap_nil, List.append_nil, List.take_zero, strRow] at this ⊢
    exact this
  · rintro T' H' n' hf hi ho _
    have h7 : T' 7 = .i64 s.l.length := hf 7 rfl
    clear hf
    simp only [go_sem, reduceIte, Nat.reduceEqDiff, Nat.reduceAdd, Nat.reduceLeDiff, Nat.reduceLT, h7, hi, Int.lt_irrefl, decide_false]
    rw [List.take_of_length_le (Nat.le_refl _)] at ho
    obtain ⟨s2, h1, h2⟩ := ho.back
    rw [h1]
    simp only [WX_some]
    exact ⟨s2, rfl, h2⟩
theorem t85 (s : Slc Col) (hs : s.l.length ≤ 401) (hn : ∀ j, j < s.l.length → (s.l.getD j default).name.length ≤ 401) : calL EE 37 [.s (s.sv Col.row)] [] = some (.ret (.bool (tf (ColsOk s.l))), []) := by
  refine fn_ok f37 (by simp) ?_
  unfold c37
  simp only [go_sem, reduceIte, Nat.reduceEqDiff, Nat.reduceAdd, Nat.reduceLeDiff, Nat.reduceLT]
  have hany : s.l.any badCol = true ↔ ¬ ∀ j, j < s.l.length → ColOk (s.l.getD j default) := by
    rw [any_iff default]
    constructor
    · rintro ⟨j, hj, h⟩ hall
      obtain ⟨h1, h2, h3⟩ := hall j hj
      simp only [badCol, h1, Bool.not_true, Bool.false_or, Bool.or_eq_true, decide_eq_true_eq] at h
      omega
    · intro h
      apply Classical.byContradiction
      intro hno
      apply h
      intro j hj
      have hb : badCol (s.l.getD j default) = false := Bool.eq_false_iff.2 (fun hb => hno ⟨j, hj, hb⟩)
      simp only [badCol, Bool.or_eq_false_iff, Bool.not_eq_false', decide_eq_false_iff_not] at hb
      exact ⟨hb.1.1, by omega, by omega⟩
  split
  · rename_i h
    refine WC_cf (contains_func els_col rfl f76 rfl f98 s (by omega) _ badCol _ _ (fun j hj H1 n1 _ _ => ⟨_, rfl, CF_p rfl rfl (t111 _ (by have := hn j hj; omega))⟩)) ?_
    intro H1 n1 hn1 hH1
    simp only [go_sem, reduceIte, Nat.reduceEqDiff, Nat.reduceAdd, Nat.reduceLeDiff, Nat.reduceLT, h]
    split
    · rename_i h2
      have h2' : ¬ s.l.any badCol = true := by simpa using h2
      obtain ⟨v, hv, s2, rfl, hs2⟩ := t113 s (by omega)
      refine WC_p rfl rfl hv ?_
      simp only [go_sem, reduceIte, Nat.reduceEqDiff, Nat.reduceAdd, Nat.reduceLeDiff, Nat.reduceLT, h, h2]
      refine WC_p rfl rfl (t37 s2 (by rw [hs2, List.length_map]; omega)) ?_
      simp only [go_sem, reduceIte, Nat.reduceEqDiff, Nat.reduceAdd, Nat.reduceLeDiff, Nat.reduceLT, h, h2]
      have hcol : ∀ j, j < s.l.length → ColOk (s.l.getD j default) := Classical.byContradiction (fun hc => h2' (hany.2 hc))
      simp only [Bool.and_eq_true, decide_eq_true_eq] at h
      have : decide s2.l.Nodup = tf (ColsOk s.l) := by
        apply tf_eq
        rw [decide_eq_true_eq, hs2]
        exact ⟨fun hh => ⟨hcol, by omega, by omega, hh⟩, fun hh => hh.nodup⟩
      rw [this]
    · rename_i h2
      simp only [go_sem, reduceIte, Nat.reduceEqDiff, Nat.reduceAdd, Nat.reduceLeDiff, Nat.reduceLT, h, h2]
      have h2' : s.l.any badCol = true := by simpa using h2
      rw [tf_not (fun hh : ColsOk s.l => hany.1 h2' hh.col)]
  · rename_i h
    simp only [go_sem, reduceIte, Nat.reduceEqDiff, Nat.reduceAdd, Nat.reduceLeDiff, Nat.reduceLT, h]
    rw [tf_not]
    rintro ⟨_, h1, h2, _⟩
    apply h
    simp only [Bool.and_eq_true, decide_eq_true_eq]
    omega

/-! ### lists of places -/
def badIx (m x : Int) : Bool := decide (x < 0) || decide (m ≤ x)
theorem t115 (x m : Int) (id n : Nat) (H : Ob) (hid : id < n) (hH : H id = .box 3 ([SV.int .i64 m].map .s)) : CF EE false 104 [.s (.int .i64 x), .ptr id 0] H n (.bool (badIx m x)) := by
  refine fn_ref rfl f104 (by simp) ?_
  unfold c104
  simp only [go_sem, reduceIte, Nat.reduceEqDiff, Nat.reduceAdd, Nat.reduceLeDiff, Nat.reduceLT, hH]
  show _ ∧ _
  exact ⟨rfl, by omega⟩
theorem any_badIx {l : List Int} {m : Int} : l.any (badIx m) = true ↔ ¬ ∀ j, j < l.length → 0 ≤ l.getD j default ∧ l.getD j default < m := by
  rw [any_iff default]
  constructor
  · rintro ⟨j, hj, h⟩ hall
    have := hall j hj
    simp only [badIx, Bool.or_eq_true, decide_eq_true_eq] at h
    omega
  · intro h
    apply Classical.byContradiction
    intro hno
    apply h
    intro j hj
    have hb : badIx m (l.getD j default) = false := Bool.eq_false_iff.2 (fun hb => hno ⟨j, hj, hb⟩)
    simp only [badIx, Bool.or_eq_false_iff, decide_eq_false_iff_not] at hb
    omega
theorem t92 (s : Slc Int) (m : Int) (hs : s.l.length ≤ 401) : calL EE 92 [.s (s.sv intRow), .i64 m] [] = some (.ret (.bool (tf (IdxsOk s.l m))), []) := by
  refine fn_ok f92 (by simp) ?_
  unfold c92
  have e : boxO (Ob.of []) 0 3 (.i64 m) = some (.ptr 0 0, (Ob.of []).set 0 (.box 3 ([SV.int .i64 m].map .s))) := rfl
  simp only [go_sem, reduceIte, Nat.reduceEqDiff, Nat.reduceAdd, Nat.reduceLeDiff, Nat.reduceLT, e]
  refine WC_p rfl rfl (t38 s (by omega)) ?_
  simp only [go_sem, reduceIte, Nat.reduceEqDiff, Nat.reduceAdd, Nat.reduceLeDiff, Nat.reduceLT]
  split
  · rename_i h
    refine WC_cf (contains_func els_int rfl f52 rfl f90 s (by omega) _ (badIx m) _ _ (fun j hj H1 n1 hn hH => ⟨_, rfl, t115 _ m 0 n1 H1 (by omega) ?_⟩)) ?_
    · rw [hH 0 (by omega), set_at, if_pos rfl]
    · intro H1 n1 hn1 hH1
      simp only [go_sem, reduceIte, Nat.reduceEqDiff, Nat.reduceAdd, Nat.reduceLeDiff, Nat.reduceLT, h]
      rw [decide_eq_true_eq] at h
      have : (!s.l.any (badIx m)) = tf (IdxsOk s.l m) := by
        apply tf_eq
        rw [Bool.not_eq_true', ← Bool.not_eq_true, any_badIx, Classical.not_not]
        exact ⟨fun hh => ⟨hh, h⟩, fun hh => hh.at_⟩
      rw [this]
  · rename_i h
    simp only [go_sem, reduceIte, Nat.reduceEqDiff, Nat.reduceAdd, Nat.reduceLeDiff, Nat.reduceLT, h]
    rw [tf_not]
    intro hh
    exact h (decide_eq_true hh.nodup)

/-! ### tables -/
structure IxOk (t : Tab) (x : Idx) : Prop where
  some_ : x.cols.l.length ≠ 0
  idxs : IdxsOk x.cols.l t.cols.l.length
noncomputable def badX (t : Tab) (x : Idx) : Bool := !tf (IxOk t x)
def Asc {α : Type} [Inhabited α] (id : α → Int) (l : List α) : Prop := ∀ j, j + 1 < l.length → id (l.getD j default) ≤ id (l.getD (j + 1) default)
structure TabP (t : Tab) : Prop where
  cols : ColsOk t.cols.l
  key : IdxsOk t.key.l t.cols.l.length
  ix : ∀ j, j < t.idx.l.length → IxOk t (t.idx.l.getD j default)
  asc : Asc Idx.id t.idx.l
theorem t91 (t : Tab) (x : Idx) (id n : Nat) (H : Ob) (hx : FewX x) (hid : id < n) (hH : H id = .box 47 (t.row.map .s)) : CF EE false 91 [.st x.row, .ptr id 0] H n (.bool (badX t x)) := by
  have hl := hx.2
  refine fn_ref rfl f91 (by simp) ?_
  unfold c91
  have hne : (id = n) = False := eq_false (by omega)
  simp only [go_sem, reduceIte, Nat.reduceEqDiff, Nat.reduceAdd, Nat.reduceLeDiff, Nat.reduceLT, hH, hne, Idx.row, Tab.row]
  split
  · rename_i h
    have h0 : ¬ x.cols.l.length = 0 := by
      simp only [Bool.not_eq_true', decide_eq_false_iff_not] at h
      omega
    refine WC_p rfl rfl (t92 x.cols t.cols.l.length (by omega)) ?_
    have e0 : decide ((x.cols.l.length : Int) = 0) = false := decide_eq_false (by omega)
    simp only [go_sem, reduceIte, Nat.reduceEqDiff, Nat.reduceAdd, Nat.reduceLeDiff, Nat.reduceLT, e0]
    refine ⟨?_, by omega, fun j hj => if_neg (by omega)⟩
    have : (!tf (IdxsOk x.cols.l t.cols.l.length)) = badX t x := by
      unfold badX
      congr 1
      apply tf_eq
      rw [tf_iff]
      exact ⟨fun hh => ⟨h0, hh⟩, fun hh => hh.idxs⟩
    rw [this]
  · rename_i h
    have h0 : x.cols.l.length = 0 := by
      simp only [Bool.not_eq_true', decide_eq_false_iff_not, Classical.not_not] at h
      omega
    have e0 : decide ((x.cols.l.length : Int) = 0) = true := decide_eq_true (by omega)
    simp only [go_sem, reduceIte, Nat.reduceEqDiff, Nat.reduceAdd, Nat.reduceLeDiff, Nat.reduceLT, e0]
    refine ⟨?_, by omega, fun j hj => if_neg (by omega)⟩
    unfold badX
    rw [tf_not (fun hh => hh.some_ h0)]
    rfl
theorem t94 (a b : Idx) : calL EE 94 [.st a.row, .st b.row] [] = some (.ret (.i64 (IntKind.i64.wrap (a.id - b.id))), []) := by
  refine fn_ok f94 (by simp) ?_
  unfold c94
  simp only [go_sem, reduceIte, Nat.reduceEqDiff, Nat.reduceAdd, Nat.reduceLeDiff, Nat.reduceLT, Idx.row]
theorem t50 (a b : Tab) : calL EE 61 [.st a.row, .st b.row] [] = some (.ret (.i64 (IntKind.i64.wrap (a.id - b.id))), []) := by
  refine fn_ok f61 (by simp) ?_
  unfold c61
  simp only [go_sem, reduceIte, Nat.reduceEqDiff, Nat.reduceAdd, Nat.reduceLeDiff, Nat.reduceLT, Tab.row]
theorem t52 (a b : Viw) : calL EE 63 [.st a.row, .st b.row] [] = some (.ret (.i64 (IntKind.i64.wrap (a.id - b.id))), []) := by
  refine fn_ok f63 (by simp) ?_
  unfold c63
  simp only [go_sem, reduceIte, Nat.reduceEqDiff, Nat.reduceAdd, Nat.reduceLeDiff, Nat.reduceLT, Viw.row]
/-- Numbers of which the difference does not wrap. -/
def IdIn {α : Type} [Inhabited α] (id : α → Int) (l : List α) : Prop := ∀ j, j < l.length → 1 ≤ id (l.getD j default) ∧ id (l.getD j default) ≤ 2147483647
theorem asc_iff {α : Type} [Inhabited α] {id : α → Int} {l : List α} (h : IdIn id l) : tf (Asc id l) = true ↔ ∀ j, j + 1 < l.length → ¬ IntKind.i64.wrap (id (l.getD (j + 1) default) - id (l.getD j default)) < 0 := by
  rw [tf_iff]
  unfold Asc
  constructor
  · intro hh j hj
    have := hh j hj
    have h1 := h j (by omega)
    have h2 := h (j + 1) hj
    rw [wrap_in (by omega) (by omega)]
    omega
  · intro hh j hj
    have := hh j hj
    have h1 := h j (by omega)
    have h2 := h (j + 1) hj
    rw [wrap_in (by omega) (by omega)] at this
    omega
theorem t45 (t : Tab) (ht : FewT t) (hid : IdIn Idx.id t.idx.l) : calL EE 56 [.st t.row] [] = some (.ret (.bool (tf (TabP t))), []) := by
  have hb0 := ht.cols
  have hb1 := ht.idx
  have hb2 := ht.key
  refine fn_ok f56 (by simp) ?_
  unfold c56
  simp only [go_sem, reduceIte, Nat.reduceEqDiff, Nat.reduceAdd, Nat.reduceLeDiff, Nat.reduceLT, Tab.row]
  refine WC_p rfl rfl (sorted_func els_idx rfl f93 t.idx (by omega) (.func 94) (fun a b => IntKind.i64.wrap (a.id - b.id)) (tf (Asc Idx.id t.idx.l)) (asc_iff hid) (fun j hj H1 n1 _ _ => ⟨_, rfl, CF_p rfl rfl (t94 _ _)⟩)) ?_
  simp only [go_sem, reduceIte, Nat.reduceEqDiff, Nat.reduceAdd, Nat.reduceLeDiff, Nat.reduceLT, Tab.row]
  refine WC_p rfl rfl (t85 t.cols (by omega) (fun j hj => ht.col j hj)) ?_
  simp only [go_sem, reduceIte, Nat.reduceEqDiff, Nat.reduceAdd, Nat.reduceLeDiff, Nat.reduceLT, Tab.row]
  split
  · rename_i h1
    refine WC_p rfl rfl (t92 t.key t.cols.l.length (by omega)) ?_
    simp only [go_sem, reduceIte, Nat.reduceEqDiff, Nat.reduceAdd, Nat.reduceLeDiff, Nat.reduceLT, h1, Tab.row]
    split
    · rename_i h2
      refine WC_cf (contains_func els_idx rfl f95 rfl f105 t.idx (by omega) _ (badX t) _ _ (fun j hj H1 n1 hn hH => ⟨_, rfl, t91 t _ 0 n1 H1 (ht.ix j hj) (by omega) ?_⟩)) ?_
      · rw [hH 0 (by omega), set_at, if_pos rfl]; rfl
      · intro H1 n1 hn1 hH1
        simp only [go_sem, reduceIte, Nat.reduceEqDiff, Nat.reduceAdd, Nat.reduceLeDiff, Nat.reduceLT, h1, h2]
        rw [tf_iff] at h1 h2
        have : (!t.idx.l.any (badX t) && tf (Asc Idx.id t.idx.l)) = tf (TabP t) := by
          apply tf_eq
          rw [Bool.and_eq_true, tf_iff, Bool.not_eq_true', ← Bool.not_eq_true, any_iff default]
          constructor
          · rintro ⟨h3, h4⟩
            refine ⟨h1, h2, fun j hj => Classical.byContradiction (fun hno => h3 ⟨j, hj, ?_⟩), h4⟩
            unfold badX
            rw [tf_not hno]
            rfl
          · intro hh
            refine ⟨?_, hh.asc⟩
            rintro ⟨j, hj, hx⟩
            unfold badX at hx
            rw [tf_of (hh.ix j hj)] at hx
            cases hx
        rw [this]
    · rename_i h2
      simp only [go_sem, reduceIte, Nat.reduceEqDiff, Nat.reduceAdd, Nat.reduceLeDiff, Nat.reduceLT, h1, h2]
      rw [tf_not (fun hh : TabP t => h2 (tf_of hh.key))]
  · rename_i h1
    simp only [go_sem, reduceIte, Nat.reduceEqDiff, Nat.reduceAdd, Nat.reduceLeDiff, Nat.reduceLT, h1]
    rw [tf_not (fun hh : TabP t => h1 (tf_of hh.cols))]
end Go.Vm
