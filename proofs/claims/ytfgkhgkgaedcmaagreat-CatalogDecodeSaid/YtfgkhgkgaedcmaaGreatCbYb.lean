/- The decoded catalog is the encoded one; a short text gives a small catalog. -/
import Derived.Test.YtfgkhgkgaedcmaaGreatCbY
import Derived.Test.YtfgkhgkgaedcmaaGreatCbK
set_option linter.unusedVariables false
set_option linter.unusedSimpArgs false
set_option maxRecDepth 100000
namespace Go.Vm

theorem nIdx_enc (x : Idx) : encIdx (nIdx x) = encIdx x := by simp only [encIdx, nIdx, Slc.ofL_l]
theorem nTab_enc (t : Tab) : encTab (nTab t) = encTab t := by
  simp only [encTab, nTab, Slc.ofL_l, List.length_map, List.flatMap_map, nIdx_enc]
theorem nCat_enc (c : Cat) : encCat (nCat c) = encCat c := by
  simp only [encCat, nCat, Slc.ofL_l, List.length_map, List.flatMap_map, nTab_enc]
theorem nTab_ids (t : Tab) : tids (nTab t) = tids t := by
  simp only [tids, nTab, Slc.ofL_l, List.map_map]
  rfl
theorem nTab_names (t : Tab) : tnames (nTab t) = tnames t := by
  simp only [tnames, nTab, Slc.ofL_l, List.map_map]
  rfl
theorem nCat_ids (c : Cat) : ids (nCat c) = ids c := by
  simp only [ids, nCat, Slc.ofL_l, List.flatMap_map, nTab_ids]
theorem nCat_names (c : Cat) : names (nCat c) = names c := by
  simp only [names, nCat, Slc.ofL_l, List.flatMap_map, nTab_names]
theorem nIdx_few {x : Idx} (h : FewX x) : FewX (nIdx x) := by
  unfold FewX nIdx
  rw [Slc.ofL_l]
  exact h
theorem nTab_few {t : Tab} (h : FewT t) : FewT (nTab t) := by
  refine ⟨h.name, by simp only [nTab, Slc.ofL_l]; exact h.cols, by simp only [nTab, Slc.ofL_l]; exact h.key, by simp only [nTab, Slc.ofL_l, List.length_map]; exact h.idx, fun j hj => ?_, fun j hj => ?_⟩
  · simp only [nTab, Slc.ofL_l] at hj ⊢
    exact h.col j hj
  · simp only [nTab, Slc.ofL_l, List.length_map] at hj ⊢
    rw [getD_map default default hj]
    exact nIdx_few (h.ix j hj)
theorem nCat_few {c : Cat} (h : FewC c) : FewC (nCat c) := by
  refine ⟨by simp only [nCat, Slc.ofL_l, List.length_map]; exact h.tabs, by simp only [nCat, Slc.ofL_l]; exact h.views, fun j hj => ?_, fun j hj => ?_⟩
  · simp only [nCat, Slc.ofL_l, List.length_map] at hj ⊢
    rw [getD_map default default hj]
    exact nTab_few (h.tab j hj)
  · simp only [nCat, Slc.ofL_l] at hj ⊢
    exact h.view j hj
theorem asc_map {α β : Type} [Inhabited α] [Inhabited β] {f : α → β} {i : α → Int} {k : β → Int} (hk : ∀ x, k (f x) = i x) {l : List α} (h : Asc i l) : Asc k (l.map f) := fun j hj => by
  rw [List.length_map] at hj
  rw [getD_map default default hj, getD_map default default (by omega), hk, hk]
  exact h j hj
theorem nTab_ok {t : Tab} (h : TabP t) : TabP (nTab t) := by
  refine ⟨by simp only [nTab, Slc.ofL_l]; exact h.cols, by simp only [nTab, Slc.ofL_l]; exact h.key, fun j hj => ?_, ?_⟩
  · simp only [nTab, Slc.ofL_l, List.length_map] at hj ⊢
    rw [getD_map default default hj]
    have := h.ix j hj
    refine ⟨?_, ?_⟩
    · show (Slc.ofL (t.idx.l.getD j default).cols.l).l.length ≠ 0
      rw [Slc.ofL_l]
      exact this.some_
    · show IdxsOk (Slc.ofL (t.idx.l.getD j default).cols.l).l (Slc.ofL t.cols.l).l.length
      rw [Slc.ofL_l, Slc.ofL_l]
      exact this.idxs
  · simp only [nTab, Slc.ofL_l]
    exact asc_map (fun _ => rfl) h.asc
theorem nCat_ok {c : Cat} (h : ValidP c) : ValidP (nCat c) := by
  refine ⟨h.next0, h.next1, by rw [nCat_names]; exact h.len, by rw [nCat_names]; exact h.nodup, by rw [nCat_ids]; exact h.idup, by rw [nCat_names]; exact h.name, by rw [nCat_ids]; exact h.id_, fun t ht => ?_, fun v hv => ?_, ?_, ?_⟩
  · simp only [nCat, Slc.ofL_l] at ht
    obtain ⟨t0, h0, rfl⟩ := List.mem_map.1 ht
    exact nTab_ok (h.tab t0 h0)
  · simp only [nCat, Slc.ofL_l] at hv
    exact h.text v hv
  · simp only [nCat, Slc.ofL_l]
    exact asc_map (fun _ => rfl) h.asc
  · simp only [nCat, Slc.ofL_l]
    exact h.vasc
theorem nTab_same (t : Tab) : SameT t (nTab t) := by
  refine ⟨rfl, rfl, (Slc.ofL_l _).symm, (Slc.ofL_l _).symm, by simp only [nTab, Slc.ofL_l, List.length_map], fun j hj => ?_⟩
  simp only [nTab, Slc.ofL_l]
  rw [getD_map default default hj]
  exact ⟨rfl, rfl, (Slc.ofL_l _).symm⟩
theorem nCat_same (c : Cat) : SameC c (nCat c) := by
  refine ⟨rfl, by simp only [nCat, Slc.ofL_l, List.length_map], fun j hj => ?_, (Slc.ofL_l _).symm⟩
  simp only [nCat, Slc.ofL_l]
  rw [getD_map default default hj]
  exact nTab_same _

/-! ### a short text -/
theorem dLoop_all {α : Type} {read : Dst → α × Dst} {P : α → Prop} {N : Nat} (hg : ∀ d, Go read d) (hp : ∀ d, d.1.l.length ≤ N → P (read d).1) : ∀ n d, d.1.l.length ≤ N → ∀ x ∈ (dLoop read n d).1, P x
  | 0, d, _, x, hx => by cases hx
  | n + 1, d, hd, x, hx => by
    rw [dLoop] at hx
    split at hx
    · rcases List.mem_cons.1 hx with rfl | hx
      · exact hp d hd
      · exact dLoop_all hg hp n (read d).2 (Nat.le_trans (hg d).1 hd) x hx
    · cases hx
theorem dList_all {α : Type} [Inhabited α] {read : Dst → α × Dst} {P : α → Prop} {N : Nat} (hg : ∀ d, Go read d) (hp : ∀ d, d.1.l.length ≤ N → P (read d).1) {d : Dst} (hd : d.1.l.length ≤ N) : ∀ j, j < (dList read d).1.length → P ((dList read d).1.getD j default) := fun j hj =>
  dLoop_all hg hp _ _ (Nat.le_trans (dNum_le d).1 hd) _ (getD_mem _ hj)
theorem short_col (d : Dst) (hd : d.1.l.length ≤ 400) : (dCol d).1.name.length ≤ 401 := by
  have := (dTxt_le d).2.1
  show (dTxt d).1.length ≤ 401
  omega
theorem short_idx (d : Dst) (hd : d.1.l.length ≤ 400) : FewX (dIdx d).1 := by
  have h1 := (goNum d).1
  have h2 := (dTxt_le (dNum d).2).2.1
  have h3 := (goTxt (dNum d).2).1
  have h4 := dList_len goNum (dTxt (dNum d).2).2
  refine ⟨?_, ?_⟩
  · show (dTxt (dNum d).2).1.length ≤ 401
    omega
  · show (Slc.ofL (dInts (dTxt (dNum d).2).2).1).l.length ≤ 401
    rw [Slc.ofL_l]
    unfold dInts
    omega
theorem short_tab (d : Dst) (hd : d.1.l.length ≤ 400) : FewT (dTab d).1 := by
  have h1 := (goNum d).1
  have h2 := (dTxt_le (dNum d).2).2.1
  have h3 := (goTxt (dNum d).2).1
  have h4 := dList_len goCol (dTxt (dNum d).2).2
  have h5 := (goList goCol (dTxt (dNum d).2).2).1
  have h6 := dList_len goNum (dList dCol (dTxt (dNum d).2).2).2
  have h7 := (goInts (dList dCol (dTxt (dNum d).2).2).2).1
  have h8 := dList_len goIdx (dInts (dList dCol (dTxt (dNum d).2).2).2).2
  refine ⟨?_, ?_, ?_, ?_, ?_, ?_⟩
  · show (dTxt (dNum d).2).1.length ≤ 401
    omega
  · show (Slc.ofL (dList dCol (dTxt (dNum d).2).2).1).l.length ≤ 401
    rw [Slc.ofL_l]
    omega
  · show (Slc.ofL (dInts (dList dCol (dTxt (dNum d).2).2).2).1).l.length ≤ 401
    rw [Slc.ofL_l]
    unfold dInts
    omega
  · show (Slc.ofL (dList dIdx (dInts (dList dCol (dTxt (dNum d).2).2).2).2).1).l.length ≤ 401
    rw [Slc.ofL_l]
    omega
  · show ∀ j, j < (Slc.ofL (dList dCol (dTxt (dNum d).2).2).1).l.length → ((Slc.ofL (dList dCol (dTxt (dNum d).2).2).1).l.getD j default).name.length ≤ 401
    rw [Slc.ofL_l]
    exact dList_all (N := 400) (P := fun x : Col => x.name.length ≤ 401) goCol short_col (by omega)
  · show ∀ j, j < (Slc.ofL (dList dIdx (dInts (dList dCol (dTxt (dNum d).2).2).2).2).1).l.length → FewX ((Slc.ofL (dList dIdx (dInts (dList dCol (dTxt (dNum d).2).2).2).2).1).l.getD j default)
    rw [Slc.ofL_l]
    exact dList_all (N := 400) goIdx short_idx (by omega)
theorem short_viw (d : Dst) (hd : d.1.l.length ≤ 400) : (dViw d).1.name.length ≤ 401 ∧ (dViw d).1.text.length ≤ 20000 := by
  have h1 := (goNum d).1
  have h2 := (dTxt_le (dNum d).2).2.1
  have h3 := (goTxt (dNum d).2).1
  have h4 := (dTxt_le (dTxt (dNum d).2).2).2.1
  refine ⟨?_, ?_⟩
  · show (dTxt (dNum d).2).1.length ≤ 401
    omega
  · show (dTxt (dTxt (dNum d).2).2).1.length ≤ 20000
    omega
theorem short_cat (d : Dst) (hd : d.1.l.length ≤ 400) : FewC (dCat d).1 := by
  have h1 := (goNum d).1
  have h4 := dList_len goTab (dNum d).2
  have h5 := (goList goTab (dNum d).2).1
  have h6 := dList_len goViw (dList dTab (dNum d).2).2
  refine ⟨?_, ?_, ?_, ?_⟩
  · show (Slc.ofL (dList dTab (dNum d).2).1).l.length ≤ 401
    rw [Slc.ofL_l]
    omega
  · show (Slc.ofL (dList dViw (dList dTab (dNum d).2).2).1).l.length ≤ 401
    rw [Slc.ofL_l]
    omega
  · show ∀ j, j < (Slc.ofL (dList dTab (dNum d).2).1).l.length → FewT ((Slc.ofL (dList dTab (dNum d).2).1).l.getD j default)
    rw [Slc.ofL_l]
    exact dList_all (N := 400) goTab short_tab (by omega)
  · show ∀ j, j < (Slc.ofL (dList dViw (dList dTab (dNum d).2).2).1).l.length → ((Slc.ofL (dList dViw (dList dTab (dNum d).2).2).1).l.getD j default).name.length ≤ 401 ∧ ((Slc.ofL (dList dViw (dList dTab (dNum d).2).2).1).l.getD j default).text.length ≤ 20000
    rw [Slc.ofL_l]
    exact dList_all (N := 400) (P := fun v : Viw => v.name.length ≤ 401 ∧ v.text.length ≤ 20000) goViw short_viw (by omega)
end Go.Vm
