/- The two ways of saying that a catalog is valid are one. -/
import Derived.Test.YtfgkhgkgaedcmaaGreatCbJ
set_option linter.unusedVariables false
set_option linter.unusedSimpArgs false
set_option maxRecDepth 100000
namespace Go.Vm

theorem getD_map {α β : Type} {f : α → β} {l : List α} {j : Nat} (d : α) (d' : β) (h : j < l.length) : (l.map f).getD j d' = f (l.getD j d) := by
  rw [List.getD_eq_getElem?_getD, List.getD_eq_getElem?_getD, List.getElem?_map, List.getElem?_eq_getElem h]
  rfl
theorem asc_strict {α : Type} [Inhabited α] {id : α → Int} {l : List α} (hn : (l.map id).Nodup) : Asc id l ↔ ∀ j, j < l.length → 0 < j → id (l.getD (j - 1) default) < id (l.getD j default) := by
  constructor
  · intro h j hj h0
    have h1 := h (j - 1) (by omega)
    have e : j - 1 + 1 = j := by omega
    rw [e] at h1
    have h2 := (nodup_iff (0 : Int)).1 hn j (by rw [List.length_map]; exact hj) (j - 1) (by omega)
    rw [getD_map default 0 hj, getD_map default 0 (by omega)] at h2
    omega
  · intro h j hj
    have := h (j + 1) hj (by omega)
    have e : j + 1 - 1 = j := by omega
    rw [e] at this
    omega
theorem tabs_sub : ∀ l : List Tab, (l.map (·.id)).Sublist (l.flatMap tids)
  | [] => .slnil
  | t :: l => by
    rw [List.map_cons, List.flatMap_cons, tids]
    exact List.Sublist.cons_cons _ ((tabs_sub l).trans (List.sublist_append_right _ _))
theorem tids_sub {t : Tab} : ∀ {l : List Tab}, t ∈ l → (tids t).Sublist (l.flatMap tids)
  | x :: l, h => by
    rw [List.flatMap_cons]
    rcases List.mem_cons.1 h with e | h
    · rw [e]; exact List.sublist_append_left _ _
    · exact (tids_sub h).trans (List.sublist_append_right _ _)
theorem valid_iff (c : Cat) : ValidP c ↔ ValidR c := by
  have hsl := same_len c
  have views : (ids c).Nodup → (c.views.l.map (·.id)).Nodup := fun h => h.sublist (List.sublist_append_right _ _)
  have tabs : (ids c).Nodup → (c.tabs.l.map (·.id)).Nodup := fun h => h.sublist ((tabs_sub _).trans (List.sublist_append_left _ _))
  have ixs : (ids c).Nodup → ∀ t ∈ c.tabs.l, (t.idx.l.map (·.id)).Nodup := fun h t ht => (h.sublist ((tids_sub ht).trans (List.sublist_append_left _ _))).sublist (List.sublist_cons_self _ _)
  constructor
  · intro h
    refine ⟨h.next0, h.next1, h.len, h.nodup, fun j hj => ⟨h.name _ (getD_mem _ (by omega)), h.id_ _ (getD_mem _ hj), (nodup_iff default).1 h.idup j hj⟩, fun j hj => ⟨?_, (asc_strict (tabs h.idup)).1 h.asc j hj⟩, fun j hj => ⟨?_, (asc_strict (views h.idup)).1 h.vasc j hj⟩⟩
    · have hm := getD_mem (default : Tab) hj
      have ht := h.tab _ hm
      exact ⟨ht.cols, ht.key, fun k hk => ⟨ht.ix k hk, (asc_strict (ixs h.idup _ hm)).1 ht.asc k hk⟩⟩
    · have := h.text _ (getD_mem (default : Viw) hj)
      simp only [textOk, Bool.and_eq_true, decide_eq_true_eq] at this
      omega
  · intro h
    have hid : (ids c).Nodup := (nodup_iff default).2 (fun j hj => (h.id_ j hj).2.2)
    refine ⟨h.next0, h.next1, h.len, h.nodup, hid, fun x hx => ?_, fun x hx => ?_, fun t ht => ?_, fun v hv => ?_, (asc_strict (tabs hid)).2 (fun j hj => (h.tab j hj).2), (asc_strict (views hid)).2 (fun j hj => (h.view j hj).2)⟩
    · obtain ⟨j, hj, rfl⟩ := getD_idx hx
      exact (h.id_ j (by omega)).1
    · obtain ⟨j, hj, rfl⟩ := getD_idx hx
      exact (h.id_ j hj).2.1
    · have hm := ht
      obtain ⟨j, hj, rfl⟩ := getD_idx ht
      have := (h.tab j hj).1
      exact ⟨this.cols, this.key, fun k hk => (this.ix k hk).1, (asc_strict (ixs hid _ hm)).2 (fun k hk => (this.ix k hk).2)⟩
    · obtain ⟨j, hj, rfl⟩ := getD_idx hv
      have := (h.view j hj).1
      simp only [textOk, Bool.and_eq_true, decide_eq_true_eq]
      omega
end Go.Vm
