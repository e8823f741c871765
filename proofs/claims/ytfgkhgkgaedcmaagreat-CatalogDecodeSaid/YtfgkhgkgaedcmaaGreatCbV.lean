/- The decoder's lists. -/
import Derived.Test.YtfgkhgkgaedcmaaGreatCbU
set_option linter.unusedVariables false
set_option linter.unusedSimpArgs false
set_option maxRecDepth 100000
namespace Go.Vm

def listC (zero : List SV) (sz : Nat) (e : TypeId) : SC := .seq (.reg [.set 4 (.x (.c (.s .nils))), .tick 1] false) (.seq (.reg [.set 5 (.x (.c (.s .nils))), .tick 1] false) (.seq (.seq (.reg [.tick 1, .act (some 8) []
  (.call 25 [.t 7]) [(7, .x (.t 0))], .set 6 (.x (.t 8)), .tick 1] false) (.block 0 (.loop (.seq (.seq (.reg [.tick 8] false) (.cond (.pick (.op (.bin .gtr .num (.t 9) (.c (.s (.int .i64
  0)))) [(9, .x (.t 6))]) (.op (.load false 1 (.t 14)) [(14, .op (.fa 1 (.t 13)) [(13, .op (.chk (.t 12)) [(12, .x (.t 0))])])]) (.x (.c (.s (.bool false))))) .skip
  (.exit 0))) (.seq (.block 1 (.reg [.tick 2, .act (some 21) [] (.callv (.t 20) []) [(20, .x (.t 1))], .act (some 22) [] (.rows sz zero 1 [(0, .t 21)]) [], .act (some 23)
  [] (.app e sz (.t 19) (.t 22)) [(19, .x (.t 5))], .set 5 (.x (.t 23)), .tick 1] false)) (.reg [.set 6 (.op (.bin .sub .num (.t 17) (.c (.s (.int .i64 1)))) [(17, .x (.t 6))]),
  .tick 3] false)))))) (.seq (.reg [.set 4 (.x (.t 5)), .tick 2] false) .ret)))
theorem dNum_le (d : Dst) : (dNum d).2.1.l.length ≤ d.1.l.length ∧ 0 ≤ (dNum d).1 ∧ (dNum d).1 ≤ 2147483647 ∧ ((dNum d).2.2 = true → d.2 = true ∧ (dNum d).2.1.l.length < d.1.l.length) := by
  unfold dNum
  cases hu : uvD 0 0 d.1.l with
  | none => exact ⟨Nat.le_refl _, by simp, by simp, by simp⟩
  | some r =>
    obtain ⟨n, k⟩ := r
    obtain ⟨k1, k2, k3⟩ := uvD_le hu
    simp only
    split
    · refine ⟨?_, by simp, by simp; omega, fun h => ⟨h, ?_⟩⟩ <;> simp only [Slc.cut_l, List.length_drop, List.length_take] <;> omega
    · exact ⟨Nat.le_refl _, by simp, by simp, by simp⟩
/-- A method that reads: what it gives, and how far it goes. -/
structure Rd {α : Type} (g : FuncId) (val : α → PV) (read : Dst → α × Dst) : Prop where
  ref : EE.ref g = false
  loc : EE.loc g = true
  run : ∀ d, d.1.l.length ≤ 1000000000 → calL EE g [.ptr 0 0] [dbox d] = some (.ret (val (read d).1), [dbox (read d).2])
  prog : ∀ d, (read d).2.1.l.length ≤ d.1.l.length ∧ ((read d).2.2 = true → d.2 = true ∧ (read d).2.1.l.length < d.1.l.length)
theorem lis {α : Type} {l g : FuncId} {D : List Nat} {zero : List SV} {sz : Nat} {e : TypeId} {row : α → List SV} {val : α → PV} {read : Dst → α × Dst} (hs : sF EE l D = some ⟨25, [.t 4], listC zero sz e⟩) (hlf : EE.loc l = true) (hrow : ∀ x, (row x).length = sz)
    (hval : ∀ x f, ren f (val x) = some (val x)) (h1 : ∀ x H, row1 sz false H (val x) = some (row x, H)) (hg : Rd g val read) (d : Dst) (hd : d.1.l.length ≤ 1000000000) : LisC l g e sz d (dList read d).2 ((dList read d).1.map row) := by
  have h : ∃ r, calL EE l [.ptr 0 0, .func g [.ptr 0 0] []] [dbox d] = some r ∧ ∃ o hs', r = (.ret o, hs') ∧ ((o = .s .nils ∧ (dList read d).1.map row = [] ∧ hs' = [dbox (dList read d).2]) ∨ ((dList read d).1.map row ≠ [] ∧ ∃ fz, o = .hsl 1 0 0 ((dList read d).1.map row).length ∧ hs' = [dbox (dList read d).2, .sarr e sz 0 fz true ((dList read d).1.map row)])) := by
    refine fn_loc hs (by simp) ?_
    rw [hlf]
    unfold listC
    simp only [go_sem, reduceIte, Nat.reduceEqDiff, Nat.reduceAdd, Nat.reduceLeDiff, Nat.reduceLT]
    refine WC_m rfl rfl rfl (decNum d (by omega)) (ren_s) ?_
    obtain ⟨n1, n2, n3, n4⟩ := dNum_le d
    unfold dList
    generalize dNum d = nd at n1 n2 n3 n4
    obtain ⟨m, d1⟩ := nd
    simp only at n1 n2 n3 n4
    simp only [go_sem, reduceIte, Nat.reduceEqDiff, Nat.reduceAdd, Nat.reduceLeDiff, Nat.reduceLT]
    refine WP_loop rfl (fun k T H n => ∃ (dj : Dst) (j : Nat) (pre : List α), T 0 = .ptr 0 0 ∧ T 1 = .func g [.ptr 0 0] [] ∧ T 6 = .i64 j ∧ j ≤ 2147483647 ∧ H 0 = dbox dj ∧ 1 ≤ n ∧ Own 1 e sz H n (T 5) (pre.map row) ∧ Exa (T 5) (pre.map row) ∧ dj.1.l.length ≤ 1000000000 ∧ pre.length + (if dj.2 = true then dj.1.l.length + 1 else 0) ≤ 1000000001 ∧ k = (if dj.2 = true then dj.1.l.length + 1 else 0) ∧
      dLoop read m.toNat d1 = (pre ++ (dLoop read j dj).1, (dLoop read j dj).2)) (k0 := if d1.2 = true then d1.1.l.length + 1 else 0) ⟨d1, m.toNat, [], rfl, rfl, ?_, by omega, rfl, by omega, .inl ⟨rfl, rfl⟩, .inl ⟨rfl, rfl⟩, by omega, ?_, rfl, rfl⟩ ?_
    · show PV.i64 m = PV.i64 m.toNat
      rw [Int.toNat_of_nonneg n2]
    · simp only [List.length_nil]
      split <;> omega
    · rintro k T' H' n' hf ⟨dj, j, pre, g0, g1, g6, hj, hH, hn, ho, hxa, hdj, hpl, hk, he⟩
      clear hf
      have hH' := hH
      unfold dbox at hH'
      simp only [go_sem, reduceIte, Nat.reduceEqDiff, Nat.reduceAdd, Nat.reduceLeDiff, Nat.reduceLT, g0, g1, g6, hH', nilc]
      split
      · rename_i hc
        simp only [Bool.and_eq_true, decide_eq_true_eq] at hc
        obtain ⟨hj1, hok⟩ := hc
        obtain ⟨j, rfl⟩ : ∃ i, j = i + 1 := ⟨j - 1, by omega⟩
        obtain ⟨r1, r2⟩ := hg.prog dj
        refine ⟨(g, [.ptr 0 0], []), rfl, ?_⟩
        refine WC_m (id := 0) hg.ref hg.loc hH (hg.run dj hdj) (hval _) ?_
        rw [dLoop, if_pos hok] at he
        rw [if_pos hok] at hpl hk
        generalize read dj = rd at he r1 r2
        obtain ⟨x, d'⟩ := rd
        simp only at he r1 r2
        simp only [go_sem, reduceIte, Nat.reduceEqDiff, Nat.reduceAdd, Nat.reduceLeDiff, Nat.reduceLT, h1]
        have hH2 : (H'.set 0 (dbox d')) 0 = dbox d' := if_pos rfl
        generalize hHH : H'.set 0 (dbox d') = H2 at hH2
        have ho2 : Own 1 e sz H2 n' (T' 5) (pre.map row) := by
          refine ho.kept (Nat.le_refl _) fun i hi _ => ?_
          rw [← hHH]
          exact if_neg (by omega)
        refine WX_app3 (n := n') ho2 rows_slice (by simp) (by simp [hrow]) (by simp only [List.length_map, List.length_cons, List.length_nil]; omega) (by omega) (by omega) ?_
        intro p' H3 ho3 hx3 hfr
        have hH3 : H3 0 = dbox d' := by rw [hfr 0 (by omega) (ho2.off (.inl (by omega))), hH2]
        have hsub : IntKind.i64.wrap (((j + 1 : Nat) : Int) - 1) = j := by
          rw [wrap_in (by omega) (by omega)]
          omega
        simp only [go_sem, reduceIte, Nat.reduceEqDiff, Nat.reduceAdd, Nat.reduceLeDiff, Nat.reduceLT, g0, g1, g6, hsub]
        have hk' : (if d'.2 = true then d'.1.l.length + 1 else 0) < dj.1.l.length + 1 := by
          split
          · rename_i h; have := (r2 h).2; omega
          · omega
        refine ⟨if d'.2 = true then d'.1.l.length + 1 else 0, by omega, d', j, pre ++ [x], rfl, by omega, hH3, ?_, by rw [List.map_append]; exact hx3, by omega, ?_, rfl, ?_⟩
        · rw [List.map_append]
          exact ho3.keep (by omega) (fun _ _ _ _ => rfl)
        · rw [List.length_append, List.length_singleton]
          omega
        · rw [he, List.append_assoc]
          rfl
      · rename_i hc
        simp only [Bool.and_eq_true, decide_eq_true_eq, not_and] at hc
        have hz : dLoop read j dj = ([], dj) := by
          cases j with
          | zero => rfl
          | succ j => rw [dLoop, if_neg (hc (by omega))]
        rw [hz, List.append_nil] at he
        rw [he]
        obtain ⟨o, hs', k1, k2⟩ := fin_d (n := n' + 8 + 2) (ho.keep (by omega) (fun _ _ _ _ => rfl)) hxa hH
        rw [k1, WX_some]
        exact ⟨o, hs', rfl, by simpa only [List.length_map] using k2⟩
  obtain ⟨r, h2, o, hs', rfl, h3⟩ := h
  exact ⟨o, hs', h2, h3⟩
end Go.Vm
