/- The program's Valid. -/
import Derived.Test.YtfgkhgkgaedcmaaGreatCbH
set_option linter.unusedVariables false
set_option linter.unusedSimpArgs false
set_option maxRecDepth 100000
namespace Go.Vm

theorem t40 (s : List UInt8) (hs : s.length ≤ 1073741824) : calL EE 51 [.str s] [] = some (.ret (.bool (!vname s)), []) := by
  refine fn_ok f51 (by simp) ?_
  unfold c51
  simp only [go_sem, reduceIte, Nat.reduceEqDiff, Nat.reduceAdd, Nat.reduceLeDiff, Nat.reduceLT]
  refine WC_p rfl rfl (t13 _ hs) ?_
  simp only [go_sem, reduceIte, Nat.reduceEqDiff, Nat.reduceAdd, Nat.reduceLeDiff, Nat.reduceLT]
def badId (c : Cat) (x : Int) : Bool := decide (x < 1) || decide (c.next < x)
theorem t42 (c : Cat) (x : Int) (id n : Nat) (H : Ob) (hid : id < n) (hH : H id = .box 25 (c.row.map .s)) : CF EE false 53 [.s (.int .i64 x), .ptr id 0] H n (.bool (badId c x)) := by
  refine fn_ref rfl f53 (by simp) ?_
  unfold c53
  simp only [go_sem, reduceIte, Nat.reduceEqDiff, Nat.reduceAdd, Nat.reduceLeDiff, Nat.reduceLT, hH, Cat.row]
  show _ ∧ _
  exact ⟨rfl, by omega⟩
theorem t44 (t : Tab) (ht : FewT t) (hid : IdIn Idx.id t.idx.l) : calL EE 55 [.st t.row] [] = some (.ret (.bool (!tf (TabP t))), []) := by
  refine fn_ok f55 (by simp) ?_
  unfold c55
  simp only [go_sem, reduceIte, Nat.reduceEqDiff, Nat.reduceAdd, Nat.reduceLeDiff, Nat.reduceLT, Tab.row]
  refine WC_p rfl rfl (t45 t ht hid) ?_
  simp only [go_sem, reduceIte, Nat.reduceEqDiff, Nat.reduceAdd, Nat.reduceLeDiff, Nat.reduceLT]
def textOk (s : List UInt8) : Bool := decide (1 ≤ (s.length : Int)) && decide ((s.length : Int) ≤ 16384)
theorem t48 (s : List UInt8) : calL EE 59 [.str s] [] = some (.ret (.bool (textOk s)), []) := by
  refine fn_ok f59 (by simp) ?_
  unfold c59
  simp only [go_sem, reduceIte, Nat.reduceEqDiff, Nat.reduceAdd, Nat.reduceLeDiff, Nat.reduceLT]
  rfl
theorem t47 (v : Viw) : calL EE 58 [.st v.row] [] = some (.ret (.bool (!textOk v.text)), []) := by
  refine fn_ok f58 (by simp) ?_
  unfold c58
  simp only [go_sem, reduceIte, Nat.reduceEqDiff, Nat.reduceAdd, Nat.reduceLeDiff, Nat.reduceLT, Viw.row]
  refine WC_p rfl rfl (t48 _) ?_
  simp only [go_sem, reduceIte, Nat.reduceEqDiff, Nat.reduceAdd, Nat.reduceLeDiff, Nat.reduceLT]
structure ValidP (c : Cat) : Prop where
  next0 : 0 ≤ c.next
  next1 : c.next ≤ 2147483647
  len : (names c).length ≤ 64
  nodup : (names c).Nodup
  idup : (ids c).Nodup
  name : ∀ x ∈ names c, vname x = true
  id_ : ∀ x ∈ ids c, 1 ≤ x ∧ x ≤ c.next
  tab : ∀ t ∈ c.tabs.l, TabP t
  text : ∀ v ∈ c.views.l, textOk v.text = true
  asc : Asc Tab.id c.tabs.l
  vasc : Asc Viw.id c.views.l
theorem names_short {c : Cat} (hc : FewC c) : ∀ x ∈ names c, x.length ≤ 401 := by
  intro x hx
  simp only [names, List.mem_append, List.mem_flatMap, tnames, List.mem_cons, List.mem_map] at hx
  have get : ∀ {α : Type} [Inhabited α] {l : List α} {x : α}, x ∈ l → ∃ j, j < l.length ∧ l.getD j default = x := by
    intro α _ l x hx
    obtain ⟨j, hj, e⟩ := List.getElem_of_mem hx
    exact ⟨j, hj, by rw [List.getD_eq_getElem?_getD, List.getElem?_eq_getElem hj]; exact e⟩
  rcases hx with ⟨t, ht, rfl | ⟨i, hi, rfl⟩⟩ | ⟨v, hv, rfl⟩
  · obtain ⟨j, hj, rfl⟩ := get ht
    exact (hc.tab j hj).name
  · obtain ⟨j, hj, rfl⟩ := get ht
    obtain ⟨k, hk, rfl⟩ := get hi
    exact ((hc.tab j hj).ix k hk).1
  · obtain ⟨j, hj, rfl⟩ := get hv
    exact (hc.view j hj).1
theorem names_len {c : Cat} (hc : FewC c) : (names c).length ≤ 251000 ∧ (ids c).length ≤ 251000 := by
  have h1 := tnames_flat hc.tab c.tabs.l.length (Nat.le_refl _)
  have h2 := tids_flat hc.tab c.tabs.l.length (Nat.le_refl _)
  rw [List.take_of_length_le (Nat.le_refl _)] at h1 h2
  have := hc.tabs
  have := hc.views
  simp only [names, ids, List.length_append, List.length_map]
  omega
theorem getD_idx {α : Type} [Inhabited α] {l : List α} {x : α} (hx : x ∈ l) : ∃ j, j < l.length ∧ l.getD j default = x := by
  obtain ⟨j, hj, e⟩ := List.getElem_of_mem hx
  exact ⟨j, hj, by rw [List.getD_eq_getElem?_getD, List.getElem?_eq_getElem hj]; exact e⟩
theorem tab_ids {c : Cat} (h : ∀ x ∈ ids c, 1 ≤ x ∧ x ≤ c.next) (h1 : c.next ≤ 2147483647) : (∀ t ∈ c.tabs.l, IdIn Idx.id t.idx.l) ∧ IdIn Tab.id c.tabs.l ∧ IdIn Viw.id c.views.l := by
  refine ⟨fun t ht j hj => ?_, fun j hj => ?_, fun j hj => ?_⟩
  · have := h (t.idx.l.getD j default).id (by
      simp only [ids, List.mem_append, List.mem_flatMap, tids, List.mem_cons, List.mem_map]
      exact .inl ⟨t, ht, .inr ⟨_, getD_mem _ hj, rfl⟩⟩)
    omega
  · have := h (c.tabs.l.getD j default).id (by
      simp only [ids, List.mem_append, List.mem_flatMap, tids, List.mem_cons, List.mem_map]
      exact .inl ⟨_, getD_mem _ hj, .inl rfl⟩)
    omega
  · have := h (c.views.l.getD j default).id (by
      simp only [ids, List.mem_append, List.mem_flatMap, tids, List.mem_cons, List.mem_map]
      exact .inr ⟨_, getD_mem _ hj, rfl⟩)
    omega
theorem t11 (c : Cat) (hc : FewC c) : calL EE 16 [.st c.row] [] = some (.ret (.bool (tf (ValidP c))), []) := by
  obtain ⟨hl1, hl2⟩ := names_len hc
  have hb0 := hc.tabs
  have hb1 := hc.views
  refine fn_ok f16 (by simp) ?_
  unfold c16
  simp only [go_sem, reduceIte, Nat.reduceEqDiff, Nat.reduceAdd, Nat.reduceLeDiff, Nat.reduceLT, Cat.row]
  obtain ⟨v, hv, s1, s2, rfl, hs1, hs2⟩ := t36 c hc
  refine WC_p rfl rfl hv ?_
  have ext0 : extractV 0 (.tuple [.s (s1.sv strRow), .s (s2.sv intRow)]) = some (.s (s1.sv strRow)) := rfl
  have ext1 : extractV 1 (.tuple [.s (s1.sv strRow), .s (s2.sv intRow)]) = some (.s (s2.sv intRow)) := rfl
  simp only [go_sem, reduceIte, Nat.reduceEqDiff, Nat.reduceAdd, Nat.reduceLeDiff, Nat.reduceLT, ext0, ext1, Cat.row]
  generalize hg : (decide (64 < (s1.l.length : Int)) || decide (c.next < 0) || decide (2147483647 < c.next)) = g
  cases g with
  | true =>
    simp only [go_sem, reduceIte, Nat.reduceEqDiff, Nat.reduceAdd, Nat.reduceLeDiff, Nat.reduceLT]
    rw [tf_not]
    intro hh
    simp only [Bool.or_eq_true, decide_eq_true_eq, hs1] at hg
    have h1 := hh.len
    have h2 := hh.next0
    have h3 := hh.next1
    omega
  | false =>
    simp only [Bool.or_eq_false_iff, decide_eq_false_iff_not, hs1] at hg
    simp only [go_sem, reduceIte, Nat.reduceEqDiff, Nat.reduceAdd, Nat.reduceLeDiff, Nat.reduceLT]
    refine WC_p rfl rfl (t37 s1 (by rw [hs1]; omega)) ?_
    simp only [go_sem, reduceIte, Nat.reduceEqDiff, Nat.reduceAdd, Nat.reduceLeDiff, Nat.reduceLT]
    cases hd1 : decide s1.l.Nodup with
    | false =>
      simp only [go_sem, reduceIte, Nat.reduceEqDiff, Nat.reduceAdd, Nat.reduceLeDiff, Nat.reduceLT]
      rw [tf_not (fun hh => by rw [decide_eq_false_iff_not, hs1] at hd1; exact hd1 hh.nodup)]
    | true =>
      simp only [go_sem, reduceIte, Nat.reduceEqDiff, Nat.reduceAdd, Nat.reduceLeDiff, Nat.reduceLT]
      refine WC_p rfl rfl (t38 s2 (by rw [hs2]; omega)) ?_
      simp only [go_sem, reduceIte, Nat.reduceEqDiff, Nat.reduceAdd, Nat.reduceLeDiff, Nat.reduceLT]
      cases hd2 : decide s2.l.Nodup with
      | false =>
        simp only [go_sem, reduceIte, Nat.reduceEqDiff, Nat.reduceAdd, Nat.reduceLeDiff, Nat.reduceLT]
        rw [tf_not (fun hh => by rw [decide_eq_false_iff_not, hs2] at hd2; exact hd2 hh.idup)]
      | true =>
        rw [decide_eq_true_eq, hs1] at hd1
        rw [decide_eq_true_eq, hs2] at hd2
        simp only [go_sem, reduceIte, Nat.reduceEqDiff, Nat.reduceAdd, Nat.reduceLeDiff, Nat.reduceLT]
        refine WC_cf (contains_func els_str rfl f50 rfl f89 s1 (by rw [hs1]; omega) _ (fun s => !vname s) _ _ (fun j hj H1 n1 hn hH => ⟨_, rfl, CF_p rfl rfl (t40 _ ?_)⟩)) ?_
        · have := names_short hc (s1.l.getD j default) (by rw [← hs1]; exact getD_mem _ hj)
          omega
        intro H1 n1 hn1 hH1
        have hA1 : H1 0 = .box 25 (c.row.map .s) := by rw [hH1 0 (by omega), set_at, if_pos rfl]; rfl
        simp only [go_sem, reduceIte, Nat.reduceEqDiff, Nat.reduceAdd, Nat.reduceLeDiff, Nat.reduceLT]
        cases ha1 : s1.l.any (fun s => !vname s) with
        | true =>
          simp only [go_sem, reduceIte, Nat.reduceEqDiff, Nat.reduceAdd, Nat.reduceLeDiff, Nat.reduceLT]
          rw [tf_not]
          intro hh
          rw [List.any_eq_true] at ha1
          obtain ⟨x, hx, hv⟩ := ha1
          rw [hh.name x (by rw [← hs1]; exact hx)] at hv
          cases hv
        | false =>
          simp only [go_sem, reduceIte, Nat.reduceEqDiff, Nat.reduceAdd, Nat.reduceLeDiff, Nat.reduceLT]
          refine WC_cf (contains_func els_int rfl f52 rfl f90 s2 (by rw [hs2]; omega) _ (badId c) _ _ (fun j hj H2 n2 hn hH => ⟨_, rfl, t42 c _ 0 n2 H2 (by omega) ?_⟩)) ?_
          · rw [hH 0 (by omega), hA1]
          intro H2 n2 hn2 hH2
          have hA2 : H2 0 = .box 25 (c.row.map .s) := by rw [hH2 0 (by omega), hA1]
          simp only [go_sem, reduceIte, Nat.reduceEqDiff, Nat.reduceAdd, Nat.reduceLeDiff, Nat.reduceLT]
          cases ha2 : s2.l.any (badId c) with
          | true =>
            simp only [go_sem, reduceIte, Nat.reduceEqDiff, Nat.reduceAdd, Nat.reduceLeDiff, Nat.reduceLT]
            rw [tf_not]
            intro hh
            rw [List.any_eq_true] at ha2
            obtain ⟨x, hx, hv⟩ := ha2
            have := hh.id_ x (by rw [← hs2]; exact hx)
            simp only [badId, Bool.or_eq_true, decide_eq_true_eq] at hv
            omega
          | false =>
            have hid : ∀ x ∈ ids c, 1 ≤ x ∧ x ≤ c.next := by
              intro x hx
              have := List.any_eq_false.1 ha2 x (by rw [hs2]; exact hx)
              simp only [badId, Bool.or_eq_true, decide_eq_true_eq, not_or] at this
              omega
            obtain ⟨hi1, hi2, hi3⟩ := tab_ids hid (by omega)
            simp only [go_sem, reduceIte, Nat.reduceEqDiff, Nat.reduceAdd, Nat.reduceLeDiff, Nat.reduceLT, hA2, Cat.row]
            refine WC_cf (contains_func els_tab rfl f54 rfl f88 c.tabs (by omega) _ (fun t => !tf (TabP t)) _ _ (fun j hj H3 n3 hn hH => ⟨_, rfl, CF_p rfl rfl (t44 _ (hc.tab j hj) (hi1 _ (getD_mem _ hj)))⟩)) ?_
            intro H3 n3 hn3 hH3
            have hA3 : H3 0 = .box 25 (c.row.map .s) := by rw [hH3 0 (by omega), hA2]
            simp only [go_sem, reduceIte, Nat.reduceEqDiff, Nat.reduceAdd, Nat.reduceLeDiff, Nat.reduceLT]
            cases ha3 : c.tabs.l.any (fun t => !tf (TabP t)) with
            | true =>
              simp only [go_sem, reduceIte, Nat.reduceEqDiff, Nat.reduceAdd, Nat.reduceLeDiff, Nat.reduceLT]
              rw [tf_not]
              intro hh
              rw [List.any_eq_true] at ha3
              obtain ⟨x, hx, hv⟩ := ha3
              rw [tf_of (hh.tab x hx)] at hv
              cases hv
            | false =>
              simp only [go_sem, reduceIte, Nat.reduceEqDiff, Nat.reduceAdd, Nat.reduceLeDiff, Nat.reduceLT, hA3, Cat.row]
              refine WC_cf (contains_func els_viw rfl f57 rfl f96 c.views (by omega) _ (fun v => !textOk v.text) _ _ (fun j hj H4 n4 hn hH => ⟨_, rfl, CF_p rfl rfl (t47 _)⟩)) ?_
              intro H4 n4 hn4 hH4
              have hA4 : H4 0 = .box 25 (c.row.map .s) := by rw [hH4 0 (by omega), hA3]
              simp only [go_sem, reduceIte, Nat.reduceEqDiff, Nat.reduceAdd, Nat.reduceLeDiff, Nat.reduceLT]
              cases ha4 : c.views.l.any (fun v => !textOk v.text) with
              | true =>
                simp only [go_sem, reduceIte, Nat.reduceEqDiff, Nat.reduceAdd, Nat.reduceLeDiff, Nat.reduceLT]
                rw [tf_not]
                intro hh
                rw [List.any_eq_true] at ha4
                obtain ⟨x, hx, hv⟩ := ha4
                rw [hh.text x hx] at hv
                cases hv
              | false =>
                simp only [go_sem, reduceIte, Nat.reduceEqDiff, Nat.reduceAdd, Nat.reduceLeDiff, Nat.reduceLT, hA4, Cat.row]
                refine WC_p rfl rfl (sorted_func els_tab rfl f60 c.tabs (by omega) (.func 61) (fun a b => IntKind.i64.wrap (a.id - b.id)) (tf (Asc Tab.id c.tabs.l)) (asc_iff hi2) (fun j hj H1 n1 _ _ => ⟨_, rfl, CF_p rfl rfl (t50 _ _)⟩)) ?_
                simp only [go_sem, reduceIte, Nat.reduceEqDiff, Nat.reduceAdd, Nat.reduceLeDiff, Nat.reduceLT]
                cases ha5 : tf (Asc Tab.id c.tabs.l) with
                | false =>
                  simp only [go_sem, reduceIte, Nat.reduceEqDiff, Nat.reduceAdd, Nat.reduceLeDiff, Nat.reduceLT]
                  rw [tf_not (fun hh => by rw [tf_of hh.asc] at ha5; cases ha5)]
                | true =>
                  simp only [go_sem, reduceIte, Nat.reduceEqDiff, Nat.reduceAdd, Nat.reduceLeDiff, Nat.reduceLT, hA4, Cat.row]
                  refine WC_p rfl rfl (sorted_func els_viw rfl f62 c.views (by omega) (.func 63) (fun a b => IntKind.i64.wrap (a.id - b.id)) (tf (Asc Viw.id c.views.l)) (asc_iff hi3) (fun j hj H1 n1 _ _ => ⟨_, rfl, CF_p rfl rfl (t52 _ _)⟩)) ?_
                  simp only [go_sem, reduceIte, Nat.reduceEqDiff, Nat.reduceAdd, Nat.reduceLeDiff, Nat.reduceLT]
                  have : tf (Asc Viw.id c.views.l) = tf (ValidP c) := by
                    apply tf_eq
                    rw [tf_iff] at ha5 ⊢
                    constructor
                    · intro h6
                      refine ⟨by omega, by omega, by omega, hd1, hd2, fun x hx => ?_, hid, fun t ht => ?_, fun v hv => ?_, ha5, h6⟩
                      · have := List.any_eq_false.1 ha1 x (by rw [hs1]; exact hx)
                        simpa using this
                      · have := List.any_eq_false.1 ha3 t ht
                        exact tf_iff.1 (by simpa using this)
                      · have := List.any_eq_false.1 ha4 v hv
                        simpa using this
                    · intro hh; exact hh.vasc
                  rw [this]
end Go.Vm
