/- The library's loops over slices, once for every kind of element. -/
import Derived.Test.YtfgkhgkgaedcmaaGreatCbF
set_option linter.unusedVariables false
set_option linter.unusedSimpArgs false
set_option maxRecDepth 100000
namespace Go.Vm
def cIF (agg : Bool) (sz : Nat) : SC := .seq (.reg [.set 4 (.x (.c (.s (.int .i64 0)))), .tick 1] false) (.seq (.seq (.reg [.set 7 (.op (.len (.sl 0) (.t 6)) [(6, .x (.t 0))]), .set 8 (.x (.c (.s (.int .i64 0)))), .tick 3] false) (.block 0 (.loop (.seq (.reg [.tick 1] false) (.seq (.cond (.op (.bin .lss .num (.t 8) (.t 7)) []) .skip (.exit 0)) (.seq (.block 1 (.seq (.reg [.set 5 (.x (.t 8)), .tick 2] false) (.seq (.reg [.tick 5, .act (some 16) [] (.callv (.t 11) [.t 15]) [(11, .x (.t 1)), (15, .op (.load agg sz (.t 14)) [(14, .op (.ia (.sl sz) (.t 12) (.t 13)) [(12, .x (.t 0)), (13, .x (.t 5))])])]] false) (.cond (.x (.t 16)) (.seq (.reg [.set 4 (.x (.t 5)), .tick 2] false) .ret) .skip)))) (.reg [.set 8 (.op (.bin .add .num (.t 8) (.c (.s (.int .i64 1)))) []), .tick 2] false))))))) (.seq (.reg [.set 4 (.x (.c (.s (.int .i64 (-1))))), .tick 1] false) .ret))
def cIS (agg : Bool) (sz : Nat) : SC := .seq (.reg [.set 4 (.x (.c (.s (.bool false)))), .tick 1] false) (.seq (.seq (.reg [.set 5 (.op (.bin .sub .num (.t 7) (.c (.s (.int .i64 1)))) [(7, .op (.len (.sl 0) (.t 6)) [(6, .x (.t 0))])]), .tick 4] false) (.block 0 (.loop (.seq (.seq (.reg [.tick 2] false) (.cond (.op (.bin .gtr .num (.t 9) (.c (.s (.int .i64 0)))) [(9, .x (.t 5))]) .skip (.exit 0))) (.seq (.block 1 (.seq (.reg [.tick 10, .act (some 23) [] (.callv (.t 13) [.t 17, .t 22]) [(13, .x (.t 1)), (17, .op (.load agg sz (.t 16)) [(16, .op (.ia (.sl sz) (.t 14) (.t 15)) [(14, .x (.t 0)), (15, .x (.t 5))])]), (22, .op (.load agg sz (.t 21)) [(21, .op (.ia (.sl sz) (.t 18) (.t 20)) [(18, .x (.t 0)), (20, .op (.bin .sub .num (.t 19) (.c (.s (.int .i64 1)))) [(19, .x (.t 5))])])])], .tick 1] true) (.cond (.op (.bin .lss .num (.t 23) (.c (.s (.int .i64 0)))) []) (.seq (.reg [.set 4 (.x (.c (.s (.bool false)))), .tick 1] false) .ret) .skip))) (.reg [.set 5 (.op (.bin .sub .num (.t 11) (.c (.s (.int .i64 1)))) [(11, .x (.t 5))]), .tick 3] false)))))) (.seq (.reg [.set 4 (.x (.c (.s (.bool true)))), .tick 1] false) .ret))
def cCF (g : Nat) : SC := .seq (.reg [.set 4 (.x (.c (.s (.bool false)))), .tick 1] false) (.seq (.reg [.tick 2, .act (some 7) [] (.call g [.t 5, .t 6]) [(5, .x (.t 0)), (6, .x (.t 1))], .set 4 (.op (.bin .geq .num (.t 7) (.c (.s (.int .i64 0)))) []), .tick 2] false) .ret)
/-- The first place where q holds, or -1. -/
def idxF {α : Type} (q : α → Bool) (l : List α) : Int := match l.findIdx? q with
  | some i => i
  | none => -1
/-- How elements of a slice are read. -/
structure Els {α : Type} (agg : Bool) (sz : Nat) (f : α → List SV) (el : α → PV) : Prop where
  len : ∀ x, (f x).length = sz
  pos : 0 < sz
  load : ∀ x, loadS agg sz (f x) 0 = some (el x)
section
variable {α : Type} [Inhabited α] {agg : Bool} {sz : Nat} {f : α → List SV} {el : α → PV}
omit [Inhabited α] in
theorem Els.ia (h : Els agg sz f el) {s : Slc α} {H : Ob} {k : IntKind} {i : Int} : indexAM (.sl sz) H (.s (s.sv f)) (.s (.int k i)) = gd (0 ≤ i ∧ i < s.l.length) (.eptr (s.l.map f) i.toNat 0) := ia_sv h.len h.pos
theorem findIdx_none {q : α → Bool} {l : List α} (h : ∀ m, m < l.length → q (l.getD m default) = false) : l.findIdx? q = none := by
  rw [List.findIdx?_eq_none_iff]
  intro x hx
  obtain ⟨j, hj, e⟩ := List.getElem_of_mem hx
  have := h j hj
  rw [List.getD_eq_getElem?_getD, List.getElem?_eq_getElem hj] at this
  simpa [e] using this
theorem findIdx_some {q : α → Bool} {l : List α} {j : Nat} (hj : j < l.length) (h : ∀ m, m < j → q (l.getD m default) = false) (hq : q (l.getD j default) = true) : l.findIdx? q = some j := by
  rw [List.findIdx?_eq_some_iff_getElem]
  refine ⟨hj, ?_, fun m hm => ?_⟩
  · rw [List.getD_eq_getElem?_getD, List.getElem?_eq_getElem hj] at hq
    exact hq
  · have := h m hm
    rw [List.getD_eq_getElem?_getD, List.getElem?_eq_getElem (by omega)] at this
    simpa using this
/-- A function value, called on each element. -/
def Calls1 (dr : Bool) (fv : PV) (H : Ob) (n : Nat) (x v : PV) : Prop := ∀ H1 n1, n ≤ n1 → (∀ i, i < n → H1 i = H i) → ∃ c, callee fv = some c ∧ CF EE dr c.1 (c.2.1 ++ [x] ++ c.2.2) H1 n1 v
theorem idx_func (h : Els agg sz f el) {g : FuncId} {D : List Nat} (hg : EE.ref g = true) (hf : sF EE g D = some ⟨19, [.t 4], cIF agg sz⟩) (s : Slc α) (hs : s.l.length ≤ 1073741824) (fv : PV) (q : α → Bool) (H : Ob) (n : Nat)
    (hc : ∀ j, j < s.l.length → Calls1 false fv H n (el (s.l.getD j default)) (.bool (q (s.l.getD j default)))) : CF EE false g [.s (s.sv f), fv] H n (.i64 (idxF q s.l)) := by
  refine fn_ref hg hf (by simp) ?_
  unfold cIF
  simp only [go_sem, reduceIte, Nat.reduceEqDiff, Nat.reduceAdd, Nat.reduceLeDiff, Nat.reduceLT]
  refine WP_scan rfl 8 s.l.length (fun j => q (s.l.getD j default) = false) (fun _ _ H1 n1 => n ≤ n1 ∧ ∀ i, i < n → H1 i = H i) rfl ⟨by omega, fun _ _ => rfl⟩ ?_ ?_
  · rintro j T' H' n' hlt hf hi ⟨hn, hH⟩ hp
    have h0 : T' 0 = .s (s.sv f) := hf 0 rfl
    have h1 : T' 1 = fv := hf 1 rfl
    have h7 : T' 7 = .i64 s.l.length := hf 7 rfl
    clear hf
    simp only [go_sem, reduceIte, Nat.reduceEqDiff, Nat.reduceAdd, Nat.reduceLeDiff, Nat.reduceLT, h0, h1, h7, hi, h.ia, h.load, Int.ofNat_lt, hlt, decide_true]
    obtain ⟨c, hcc, hcf⟩ := hc j hlt H' (n' + 1 + 2 + 5 + 1) (by omega) hH
    refine WV_cf hcc hcf ?_
    intro H1 n1 hn1 hH1
    simp only [go_sem, reduceIte, Nat.reduceEqDiff, Nat.reduceAdd, Nat.reduceLeDiff, Nat.reduceLT, hi, wrap_succ (show j < 4611686018427387904 by omega)]
    split
    · rename_i hq
      refine ⟨?_, by omega, fun i hi => (hH1 i (by omega)).trans (hH i hi)⟩
      unfold idxF
      rw [findIdx_some hlt hp hq]
    · rename_i hq
      exact ⟨by simpa using hq, by omega, fun i hi => (hH1 i (by omega)).trans (hH i hi)⟩
  · rintro T' H' n' hf hi ⟨hn, hH⟩ hp
    have h7 : T' 7 = .i64 s.l.length := hf 7 rfl
    clear hf
    simp only [go_sem, reduceIte, Nat.reduceEqDiff, Nat.reduceAdd, Nat.reduceLeDiff, Nat.reduceLT, h7, hi, Int.lt_irrefl, decide_false]
    refine ⟨?_, by omega, hH⟩
    unfold idxF
    rw [findIdx_none hp]
omit [Inhabited α] in
theorem idxF_nonneg {q : α → Bool} {l : List α} : decide (0 ≤ idxF q l) = l.any q := by
  unfold idxF
  cases h : l.findIdx? q with
  | none =>
    rw [List.findIdx?_eq_none_iff] at h
    rw [Bool.eq_iff_iff, decide_eq_true_eq, List.any_eq_true]
    constructor
    · intro h; simp at h
    · rintro ⟨x, hx, hq⟩
      rw [h x hx] at hq
      cases hq
  | some i =>
    rw [List.findIdx?_eq_some_iff_getElem] at h
    obtain ⟨hi, hq, _⟩ := h
    rw [Bool.eq_iff_iff, decide_eq_true_eq, List.any_eq_true]
    constructor
    · intro _; exact ⟨_, List.getElem_mem hi, hq⟩
    · intro _; exact Int.natCast_nonneg i
theorem contains_func (h : Els agg sz f el) {g g2 : FuncId} {D D2 : List Nat} (hg : EE.ref g = true) (hf : sF EE g D = some ⟨9, [.t 4], cCF g2⟩) (hg2 : EE.ref g2 = true) (hf2 : sF EE g2 D2 = some ⟨19, [.t 4], cIF agg sz⟩) (s : Slc α) (hs : s.l.length ≤ 1073741824) (fv : PV) (q : α → Bool) (H : Ob) (n : Nat)
    (hc : ∀ j, j < s.l.length → Calls1 false fv H n (el (s.l.getD j default)) (.bool (q (s.l.getD j default)))) : CF EE false g [.s (s.sv f), fv] H n (.bool (s.l.any q)) := by
  refine fn_ref hg hf (by simp) ?_
  unfold cCF
  simp only [go_sem, reduceIte, Nat.reduceEqDiff, Nat.reduceAdd, Nat.reduceLeDiff, Nat.reduceLT]
  refine WC_cf (idx_func h hg2 hf2 s hs fv q H (n + 1 + 2 + 1) (fun j hj H1 n1 hn hH => hc j hj H1 n1 (by omega) (fun i hi => hH i (by omega)))) ?_
  intro H1 n1 hn hH
  simp only [go_sem, reduceIte, Nat.reduceEqDiff, Nat.reduceAdd, Nat.reduceLeDiff, Nat.reduceLT, idxF_nonneg]
  exact ⟨by omega, fun i hi => hH i (by omega)⟩
/-- A function value, called on two elements. -/
def Calls2 (dr : Bool) (fv : PV) (H : Ob) (n : Nat) (x y v : PV) : Prop := ∀ H1 n1, n ≤ n1 → (∀ i, i < n → H1 i = H i) → ∃ c, callee fv = some c ∧ CF EE dr c.1 (c.2.1 ++ [x, y] ++ c.2.2) H1 n1 v
theorem sorted_func (h : Els agg sz f el) {g : FuncId} {D : List Nat} (hg : (EE.ref g || EE.loc g) = false) (hf : sF EE g D = some ⟨25, [.t 4], cIS agg sz⟩) (s : Slc α) (hs : s.l.length ≤ 1073741824) (fv : SV) (q : α → α → Int) (b : Bool) (hb : b = true ↔ ∀ j, j + 1 < s.l.length → ¬ q (s.l.getD (j + 1) default) (s.l.getD j default) < 0)
    (hc : ∀ j, j + 1 < s.l.length → Calls2 true (.s fv) (Ob.of []) 0 (el (s.l.getD (j + 1) default)) (el (s.l.getD j default)) (.i64 (q (s.l.getD (j + 1) default) (s.l.getD j default)))) :
    calL EE g [.s (s.sv f), .s fv] [] = some (.ret (.bool b), []) := by
  refine fn_ok hf (by simp) ?_ (Bool.or_eq_false_iff.1 hg).2
  unfold cIS
  simp only [go_sem, reduceIte, Nat.reduceEqDiff, Nat.reduceAdd, Nat.reduceLeDiff, Nat.reduceLT]
  refine WP_loop rfl (fun k T H n => ∃ j : Int, j ≤ k ∧ -1 ≤ j ∧ j < s.l.length ∧ T 5 = .i64 j ∧ ∀ m : Nat, j ≤ m → m + 1 < s.l.length → ¬ q (s.l.getD (m + 1) default) (s.l.getD m default) < 0) (k0 := s.l.length) ⟨(s.l.length : Int) - 1, by omega, by omega, by omega, ?_, fun m h1 h2 => by omega⟩ ?_
  · show PV.s _ = _
    rw [wrap_in (by omega) (by omega)]
  · rintro k T' H' n' hf ⟨j, hj, hj0, hjl, h5, hp⟩
    have h0 : T' 0 = .s (s.sv f) := hf 0 rfl
    have h1 : T' 1 = .s fv := hf 1 rfl
    clear hf
    by_cases hlt : 0 < j
    · obtain ⟨m, rfl⟩ : ∃ m : Nat, j = ((m + 1 : Nat) : Int) := ⟨(j - 1).toNat, by omega⟩
      have e1 : IntKind.i64.wrap (((m + 1 : Nat) : Int) - 1) = (m : Int) := by rw [wrap_in (by omega) (by omega)]; omega
      have hm : m < s.l.length := by omega
      simp only [go_sem, reduceIte, Nat.reduceEqDiff, Nat.reduceAdd, Nat.reduceLeDiff, Nat.reduceLT, h0, h1, h5, h.ia, h.load, e1, hlt, Int.ofNat_lt, decide_true, (show m + 1 < s.l.length by omega), hm]
      obtain ⟨c, hcc, hcf⟩ := hc m (by omega) H' (n' + 2 + 10 + 1) (by omega) (fun i hi => by omega)
      refine WV_cf hcc hcf ?_
      intro H1 n1 hn1 hH1
      simp only [go_sem, reduceIte, Nat.reduceEqDiff, Nat.reduceAdd, Nat.reduceLeDiff, Nat.reduceLT, h5, e1, decide_eq_true_eq]
      split
      · rename_i hq
        rw [Bool.eq_false_iff.2 (fun h => hb.1 h m (by omega) hq)]
      · rename_i hq
        refine ⟨k - 1, by omega, m, by omega, by omega, by omega, rfl, fun x hx hx2 => ?_⟩
        by_cases hxm : x = m
        · subst hxm; exact hq
        · exact hp x (by omega) hx2
    · simp only [go_sem, reduceIte, Nat.reduceEqDiff, Nat.reduceAdd, Nat.reduceLeDiff, Nat.reduceLT, h5, hlt, decide_false]
      rw [hb.2 (fun m hm => hp m (by omega) hm)]
end
theorem els_str : Els false 1 strRow (fun s => .s (.str s)) := ⟨fun _ => rfl, by decide, fun _ => rfl⟩
theorem els_int : Els false 1 intRow (fun n => .s (.int .i64 n)) := ⟨fun _ => rfl, by decide, fun _ => rfl⟩
theorem els_tab : Els true 5 Tab.row (fun t => .st t.row) := ⟨fun _ => rfl, by decide, fun _ => rfl⟩
theorem els_viw : Els true 4 Viw.row (fun t => .st t.row) := ⟨fun _ => rfl, by decide, fun _ => rfl⟩
theorem els_idx : Els true 3 Idx.row (fun t => .st t.row) := ⟨fun _ => rfl, by decide, fun _ => rfl⟩
theorem els_col : Els true 2 Col.row (fun t => .st t.row) := ⟨fun _ => rfl, by decide, fun _ => rfl⟩
end Go.Vm
