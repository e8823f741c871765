/- No element twice. -/
import Derived.Test.YtfgkhgkgaedcmaaGreatCbE
set_option linter.unusedVariables false
set_option linter.unusedSimpArgs false
set_option maxRecDepth 100000
namespace Go.Vm
theorem not_nodup {α : Type} {l : List α} {j : Nat} (d : α) (h : j < l.length) (hm : l.getD j d ∈ l.take j) : ¬ l.Nodup := by
  intro hn
  have : (l.take (j + 1)).Nodup := hn.sublist (List.take_sublist _ _)
  rw [take_step d h, List.nodup_append] at this
  exact this.2.2 _ hm _ (List.mem_cons_self ..) rfl
theorem nodup_next {α : Type} {l : List α} {x : α} (h : l.Nodup) (hx : x ∉ l) : (l ++ [x]).Nodup := by
  rw [List.nodup_append]
  refine ⟨h, by simp, fun a ha b hb e => ?_⟩
  have : b = x := by simpa using hb
  subst this
  subst e
  exact hx ha
theorem nodup_iff {α : Type} {l : List α} (d : α) : l.Nodup ↔ ∀ j, j < l.length → ∀ k, k < j → l.getD j d ≠ l.getD k d := by
  constructor
  · intro hn j hj k hk e
    refine not_nodup d hj ?_ hn
    rw [e, List.getD_eq_getElem?_getD, List.getElem?_eq_getElem (by omega), Option.getD_some]
    rw [List.mem_take_iff_getElem]
    exact ⟨k, by omega, rfl⟩
  · intro h
    have : ∀ j, j ≤ l.length → (l.take j).Nodup := by
      intro j
      induction j with
      | zero => intro _; simp
      | succ j ih =>
        intro hj
        rw [take_step d (by omega)]
        refine nodup_next (ih (by omega)) (fun hm => ?_)
        rw [List.mem_take_iff_getElem] at hm
        obtain ⟨k, hk, e⟩ := hm
        refine h j (by omega) k (by omega) ?_
        rw [← e, List.getD_eq_getElem?_getD (i := k), List.getElem?_eq_getElem (by omega), Option.getD_some]
    have := this l.length (Nat.le_refl _)
    rwa [List.take_of_length_le (Nat.le_refl _)] at this
theorem t53 (s : Slc (List UInt8)) (hs : s.l.length ≤ 1073741824) : calL EE 22 [.s (s.sv strRow)] [] = some (.ret (.bool (decide s.l.Nodup)), []) := by
  refine fn_ok f22 (by simp) ?_
  unfold c22
  simp only [go_sem, reduceIte, Nat.reduceEqDiff, Nat.reduceAdd, Nat.reduceLeDiff, Nat.reduceLT]
  refine WP_scan rfl 3 s.l.length (fun j => ∀ k, k < j → s.l.getD j default ≠ s.l.getD k default) (fun _ _ _ _ => True) rfl trivial ?_ ?_
  · rintro j T' H' n' hlt hf hi _ _
    have h0 : T' 0 = .s (s.sv strRow) := hf 0 rfl
    clear hf
    simp only [go_sem, reduceIte, Nat.reduceEqDiff, Nat.reduceAdd, Nat.reduceLeDiff, Nat.reduceLT, h0, hi, Int.ofNat_lt, hlt, decide_true]
    refine WP_scan rfl 4 j (fun k => s.l.getD j default ≠ s.l.getD k default) (fun _ _ _ _ => True) rfl trivial ?_ ?_
    · rintro k T2 H2 n2 hlt2 hf2 hi2 _ _
      have g0 : T2 0 = .s (s.sv strRow) := (hf2 0 rfl).trans h0
      have g3 : T2 3 = .i64 j := (hf2 3 rfl).trans hi
      clear hf2
      simp only [go_sem, reduceIte, Nat.reduceEqDiff, Nat.reduceAdd, Nat.reduceLeDiff, Nat.reduceLT, g0, g3, hi2, Int.ofNat_lt, hlt, hlt2, wrap_succ (show k < 4611686018427387904 by omega), decide_true, ia_str, strRow, (show k < s.l.length by omega), decide_eq_true_eq]
      split
      · rename_i h
        have : ¬ s.l.Nodup := fun hn => (nodup_iff default).1 hn j hlt k hlt2 h
        rw [decide_eq_false this]
      · rename_i h
        exact h
    · rintro T2 H2 n2 hf2 hi2 _ hp2
      have g3 : T2 3 = .i64 j := (hf2 3 rfl).trans hi
      clear hf2
      simp only [go_sem, reduceIte, Nat.reduceEqDiff, Nat.reduceAdd, Nat.reduceLeDiff, Nat.reduceLT, g3, hi2, Int.lt_irrefl, decide_false, wrap_succ (show j < 4611686018427387904 by omega)]
      exact hp2
  · rintro T' H' n' hf hi _ hp
    have h0 : T' 0 = .s (s.sv strRow) := hf 0 rfl
    clear hf
    simp only [go_sem, reduceIte, Nat.reduceEqDiff, Nat.reduceAdd, Nat.reduceLeDiff, Nat.reduceLT, h0, hi, Int.lt_irrefl, decide_false]
    rw [decide_eq_true ((nodup_iff default).2 hp)]

theorem t37 (s : Slc (List UInt8)) (hs : s.l.length ≤ 1073741824) : calL EE 38 [.s (s.sv strRow)] [] = some (.ret (.bool (decide s.l.Nodup)), []) := by
  refine fn_ok f38 (by simp) ?_
  unfold c38
  simp only [go_sem, reduceIte, Nat.reduceEqDiff, Nat.reduceAdd, Nat.reduceLeDiff, Nat.reduceLT]
  refine WP_scan rfl 9 s.l.length (fun j => True) (fun j T H n => H 1 = .map ((s.l.take j).map fun x => (SV.str x, SV.bool true)) ∧ (s.l.take j).Nodup) rfl ⟨rfl, List.nodup_nil⟩ ?_ ?_
  · rintro j T' H' n' hlt hf hi ⟨hH, hd⟩ _
    have h7 : T' 7 = .s (s.sv strRow) := hf 7 rfl
    have h8 : T' 8 = .i64 s.l.length := hf 8 rfl
    have h3 : T' 3 = .map 1 := hf 3 rfl
    clear hf
    simp only [go_sem, reduceIte, Nat.reduceEqDiff, Nat.reduceAdd, Nat.reduceLeDiff, Nat.reduceLT, h3, h7, h8, hi, look_str hH, Int.ofNat_lt, hlt, wrap_succ (show j < 4611686018427387904 by omega), decide_true, ia_str, strRow, decide_eq_true_eq]
    split
    · rename_i h
      have : ¬ s.l.Nodup := fun hn => not_nodup default hlt h hn
      rw [decide_eq_false this]
    · rename_i h
      simp only [mupd_str hH h, WX_some, go_sem, reduceIte, Nat.reduceEqDiff, Nat.reduceAdd, Nat.reduceLeDiff, Nat.reduceLT, hi, wrap_succ (show j < 4611686018427387904 by omega)]
      rw [take_step default hlt]
      exact ⟨rfl, nodup_next hd h⟩
  · rintro T' H' n' hf hi ⟨hH, hd⟩ _
    have h8 : T' 8 = .i64 s.l.length := hf 8 rfl
    clear hf
    simp only [go_sem, reduceIte, Nat.reduceEqDiff, Nat.reduceAdd, Nat.reduceLeDiff, Nat.reduceLT, h8, hi, Int.lt_irrefl, decide_false]
    rw [List.take_of_length_le (Nat.le_refl _)] at hd
    rw [decide_eq_true hd]

theorem t38 (s : Slc (Int)) (hs : s.l.length ≤ 1073741824) : calL EE 49 [.s (s.sv intRow)] [] = some (.ret (.bool (decide s.l.Nodup)), []) := by
  refine fn_ok f49 (by simp) ?_
  unfold c49
  simp only [go_sem, reduceIte, Nat.reduceEqDiff, Nat.reduceAdd, Nat.reduceLeDiff, Nat.reduceLT]
  refine WP_scan rfl 9 s.l.length (fun j => True) (fun j T H n => H 1 = .map ((s.l.take j).map fun x => (SV.int .i64 x, SV.bool true)) ∧ (s.l.take j).Nodup) rfl ⟨rfl, List.nodup_nil⟩ ?_ ?_
  · rintro j T' H' n' hlt hf hi ⟨hH, hd⟩ _
    have h7 : T' 7 = .s (s.sv intRow) := hf 7 rfl
    have h8 : T' 8 = .i64 s.l.length := hf 8 rfl
    have h3 : T' 3 = .map 1 := hf 3 rfl
    clear hf
    simp only [go_sem, reduceIte, Nat.reduceEqDiff, Nat.reduceAdd, Nat.reduceLeDiff, Nat.reduceLT, h3, h7, h8, hi, look_int hH, Int.ofNat_lt, hlt, wrap_succ (show j < 4611686018427387904 by omega), decide_true, ia_int, intRow, decide_eq_true_eq]
    split
    · rename_i h
      have : ¬ s.l.Nodup := fun hn => not_nodup default hlt h hn
      rw [decide_eq_false this]
    · rename_i h
      simp only [mupd_int hH h, WX_some, go_sem, reduceIte, Nat.reduceEqDiff, Nat.reduceAdd, Nat.reduceLeDiff, Nat.reduceLT, hi, wrap_succ (show j < 4611686018427387904 by omega)]
      rw [take_step default hlt]
      exact ⟨rfl, nodup_next hd h⟩
  · rintro T' H' n' hf hi ⟨hH, hd⟩ _
    have h8 : T' 8 = .i64 s.l.length := hf 8 rfl
    clear hf
    simp only [go_sem, reduceIte, Nat.reduceEqDiff, Nat.reduceAdd, Nat.reduceLeDiff, Nat.reduceLT, h8, hi, Int.lt_irrefl, decide_false]
    rw [List.take_of_length_le (Nat.le_refl _)] at hd
    rw [decide_eq_true hd]
end Go.Vm
