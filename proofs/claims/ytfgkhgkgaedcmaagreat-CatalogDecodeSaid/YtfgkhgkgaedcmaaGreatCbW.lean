/- The decoder's columns, indexes, tables and views. -/
import Derived.Test.YtfgkhgkgaedcmaaGreatCbV
set_option linter.unusedVariables false
set_option linter.unusedSimpArgs false
set_option maxRecDepth 100000
namespace Go.Vm

def dCol (d : Dst) : Col × Dst := (⟨(dTxt d).1, (dNum (dTxt d).2).1⟩, (dNum (dTxt d).2).2)
def dInts (d : Dst) : List Int × Dst := dList dNum d
def dIdx (d : Dst) : Idx × Dst :=
  let a := dNum d
  let b := dTxt a.2
  let c := dInts b.2
  (⟨a.1, b.1, .ofL c.1⟩, c.2)
def dTab (d : Dst) : Tab × Dst :=
  let a := dNum d
  let b := dTxt a.2
  let c := dList dCol b.2
  let k := dInts c.2
  let x := dList dIdx k.2
  (⟨a.1, b.1, .ofL c.1, .ofL k.1, .ofL x.1⟩, x.2)
def dViw (d : Dst) : Viw × Dst :=
  let a := dNum d
  let b := dTxt a.2
  let c := dTxt b.2
  let m := dNum c.2
  (⟨a.1, b.1, c.1, decide (m.1 = 1)⟩, m.2)
theorem dTxt_le (d : Dst) : (dTxt d).2.1.l.length ≤ d.1.l.length ∧ (dTxt d).1.length ≤ d.1.l.length ∧ ((dTxt d).2.2 = true → d.2 = true ∧ (dTxt d).2.1.l.length < d.1.l.length) := by
  unfold dTxt
  cases hu : dStr d.1.l with
  | none => exact ⟨Nat.le_refl _, by simp, by simp⟩
  | some r =>
    obtain ⟨t, k⟩ := r
    obtain ⟨k1, k2, k3⟩ := dStr_le hu
    refine ⟨?_, k3, fun h => ⟨h, ?_⟩⟩ <;> simp only [Slc.cut_l, List.length_drop, List.length_take] <;> omega
/-- How a reading goes on. -/
def Go {α : Type} (read : Dst → α × Dst) (d : Dst) : Prop := (read d).2.1.l.length ≤ d.1.l.length ∧ ((read d).2.2 = true → d.2 = true ∧ (read d).2.1.l.length < d.1.l.length)
theorem goNum (d : Dst) : Go dNum d := ⟨(dNum_le d).1, (dNum_le d).2.2.2⟩
theorem goTxt (d : Dst) : Go dTxt d := ⟨(dTxt_le d).1, (dTxt_le d).2.2⟩
theorem dLoop_le {α : Type} {read : Dst → α × Dst} (h : ∀ d, Go read d) : ∀ n d, (dLoop read n d).2.1.l.length ≤ d.1.l.length ∧ ((dLoop read n d).2.2 = true → d.2 = true) ∧ (dLoop read n d).1.length + (if (dLoop read n d).2.2 = true then (dLoop read n d).2.1.l.length else 0) ≤ d.1.l.length + 1
  | 0, d => ⟨Nat.le_refl _, fun h => h, by
    show 0 + (if d.2 = true then d.1.l.length else 0) ≤ d.1.l.length + 1
    by_cases h : d.2 = true
    · rw [if_pos h]; omega
    · rw [if_neg h]; omega⟩
  | n + 1, d => by
    rw [dLoop]
    split
    · rename_i hok
      obtain ⟨h1, h2⟩ := h d
      obtain ⟨i1, i2, i3⟩ := dLoop_le h n (read d).2
      refine ⟨by simp only; omega, fun _ => hok, ?_⟩
      simp only [List.length_cons]
      by_cases h3 : (read d).2.2 = true
      · have := (h2 h3).2
        omega
      · have h4 : dLoop read n (read d).2 = ([], (read d).2) := by
          cases n with
          | zero => rfl
          | succ n => rw [dLoop, if_neg h3]
        rw [h4]
        simp [h3]
    · rename_i hok
      refine ⟨Nat.le_refl _, fun h => h, ?_⟩
      simp [hok]
theorem goList {α : Type} {read : Dst → α × Dst} (h : ∀ d, Go read d) (d : Dst) : Go (dList read) d := by
  obtain ⟨h1, h2, h3, h4⟩ := dNum_le d
  obtain ⟨i1, i2, _⟩ := dLoop_le h (dNum d).1.toNat (dNum d).2
  refine ⟨by unfold dList; omega, fun h5 => ?_⟩
  have := h4 (i2 h5)
  exact ⟨this.1, by unfold dList; omega⟩
theorem dList_len {α : Type} {read : Dst → α × Dst} (h : ∀ d, Go read d) (d : Dst) : (dList read d).1.length ≤ d.1.l.length + 1 := by
  obtain ⟨h1, _⟩ := dNum_le d
  obtain ⟨_, _, i3⟩ := dLoop_le h (dNum d).1.toNat (dNum d).2
  unfold dList
  omega
theorem goCol (d : Dst) : Go dCol d := by
  obtain ⟨a1, a2⟩ := goTxt d
  obtain ⟨b1, b2⟩ := goNum (dTxt d).2
  exact ⟨Nat.le_trans b1 a1, fun h => ⟨(a2 (b2 h).1).1, Nat.lt_of_le_of_lt b1 (a2 (b2 h).1).2⟩⟩
theorem goInts (d : Dst) : Go dInts d := goList goNum d
theorem goIdx (d : Dst) : Go dIdx d := by
  obtain ⟨a1, a2⟩ := goNum d
  obtain ⟨b1, b2⟩ := goTxt (dNum d).2
  obtain ⟨c1, c2⟩ := goInts (dTxt (dNum d).2).2
  exact ⟨Nat.le_trans c1 (Nat.le_trans b1 a1), fun h => ⟨(a2 (b2 (c2 h).1).1).1, Nat.lt_of_le_of_lt (Nat.le_trans c1 b1) (a2 (b2 (c2 h).1).1).2⟩⟩
theorem goTab (d : Dst) : Go dTab d := by
  obtain ⟨a1, a2⟩ := goNum d
  obtain ⟨b1, b2⟩ := goTxt (dNum d).2
  obtain ⟨c1, c2⟩ := goList goCol (dTxt (dNum d).2).2
  obtain ⟨e1, e2⟩ := goInts (dList dCol (dTxt (dNum d).2).2).2
  obtain ⟨x1, x2⟩ := goList goIdx (dInts (dList dCol (dTxt (dNum d).2).2).2).2
  exact ⟨Nat.le_trans x1 (Nat.le_trans e1 (Nat.le_trans c1 (Nat.le_trans b1 a1))), fun h => ⟨(a2 (b2 (c2 (e2 (x2 h).1).1).1).1).1, Nat.lt_of_le_of_lt (Nat.le_trans x1 (Nat.le_trans e1 (Nat.le_trans c1 b1))) (a2 (b2 (c2 (e2 (x2 h).1).1).1).1).2⟩⟩
theorem goViw (d : Dst) : Go dViw d := by
  obtain ⟨a1, a2⟩ := goNum d
  obtain ⟨b1, b2⟩ := goTxt (dNum d).2
  obtain ⟨c1, c2⟩ := goTxt (dTxt (dNum d).2).2
  obtain ⟨e1, e2⟩ := goNum (dTxt (dTxt (dNum d).2).2).2
  exact ⟨Nat.le_trans e1 (Nat.le_trans c1 (Nat.le_trans b1 a1)), fun h => ⟨(a2 (b2 (c2 (e2 h).1).1).1).1, Nat.lt_of_le_of_lt (Nat.le_trans e1 (Nat.le_trans c1 b1)) (a2 (b2 (c2 (e2 h).1).1).1).2⟩⟩
theorem fin_ag {lc : Bool} {H : Ob} {n : Nat} {cs : List PV} {l : List SV} {d : Dst} (hc : ownL 1 H cs = some (l.map .s)) (h : H 0 = dbox d) : finE lc 1 (.ret (.agg cs), H, n) = some (.ret (.st l), [dbox d]) := by
  have : finC 1 (.ret (.agg cs), H, n) = some (.ret (.st l), [dbox d]) := by
    simp only [finC, ownOut, own, hc, bnd_some, firstO, h, List.nil_append, ownObjs]
    rfl
  cases lc with
  | true => exact this
  | false => exact this
theorem ownL_s {m : Nat} {H : Ob} : ∀ l : List SV, ownL m H (l.map .s) = some (l.map .s)
  | [] => rfl
  | v :: l => by simp only [List.map_cons, ownL, own, bnd_some, ownL_s l]
theorem fin_st {lc : Bool} {H : Ob} {n : Nat} {l : List SV} {d : Dst} (h : H 0 = dbox d) : finE lc 1 (.ret (.st l), H, n) = some (.ret (.st l), [dbox d]) := fin_ag (ownL_s l) h
theorem exa_cell {p : PV} {rows : List (List SV)} (h : Exa p rows) : p.cells = [p] ∧ cellOk p = true := by
  rcases h with ⟨rfl, _⟩ | ⟨_, id, ver, k, rfl⟩ <;> exact ⟨rfl, rfl⟩
theorem exa_own {α : Type} {f : α → List SV} {l : List α} {m lo e sz H n p} (h : Own lo e sz H n p (l.map f)) (hx : Exa p (l.map f)) (hm : m ≤ lo) : own m H p = some (.s ((Slc.ofL l).sv f)) := by
  have h0 := exa_back h hx
  rcases h with ⟨rfl, h⟩ | ⟨rfl, h⟩ | ⟨id, ver, fz, h1, h2, rfl, h⟩
  · exact h0
  · exact h0
  · simp only [own] at h0 ⊢
    rw [if_neg (Nat.not_lt_zero _)] at h0
    rw [if_neg (by omega)]
    exact h0
theorem rdNum : Rd 25 (fun n : Int => .i64 n) dNum := ⟨rfl, rfl, fun d hd => decNum d (by omega), goNum⟩
theorem lisInt (d : Dst) (hd : d.1.l.length ≤ 1000000000) : LisC 70 25 3 1 d (dInts d).2 ((dInts d).1.map intRow) :=
  lis (zero := [.int .i64 0]) f70 rfl (fun _ => rfl) (fun _ _ => rfl) (fun _ _ => row1_s) rdNum d hd
theorem decCol (d : Dst) (hl : d.1.l.length ≤ 1000000000) : calL EE 69 [.ptr 0 0] [dbox d] = some (.ret (.st (dCol d).1.row), [dbox (dCol d).2]) := by
  have h : ∃ r, calL EE 69 [.ptr 0 0] [dbox d] = some r ∧ r = (.ret (.st (dCol d).1.row), [dbox (dCol d).2]) := by
    refine fn_loc f69 (by simp) ?_
    unfold c69
    have a1 := (goTxt d).1
    simp only [go_sem, reduceIte, Nat.reduceEqDiff, Nat.reduceAdd, Nat.reduceLeDiff, Nat.reduceLT]
    refine WC_m (id := 0) rfl rfl rfl (decTxt d (by omega)) ren_s ?_
    simp only [go_sem, reduceIte, Nat.reduceEqDiff, Nat.reduceAdd, Nat.reduceLeDiff, Nat.reduceLT]
    refine WC_m (id := 0) rfl rfl rfl (decNum (dTxt d).2 (by omega)) ren_s ?_
    simp only [go_sem, reduceIte, Nat.reduceEqDiff, Nat.reduceAdd, Nat.reduceLeDiff, Nat.reduceLT]
    rw [fin_st (d := (dCol d).2) rfl, WX_some]
    rfl
  obtain ⟨r, h1, rfl⟩ := h
  exact h1
theorem rdCol : Rd 69 (fun x : Col => .st x.row) dCol := ⟨rfl, rfl, fun d hd => decCol d hd, goCol⟩
theorem lisCol (d : Dst) (hd : d.1.l.length ≤ 1000000000) : LisC 68 69 40 2 d (dList dCol d).2 ((dList dCol d).1.map Col.row) :=
  lis (zero := [.str [], .int .i64 0]) f68 rfl (fun _ => rfl) (fun x _ => ren_st _) (fun x _ => row1_st rfl) rdCol d hd
theorem decIdx (d : Dst) (hl : d.1.l.length ≤ 1000000000) : calL EE 72 [.ptr 0 0] [dbox d] = some (.ret (.st (dIdx d).1.row), [dbox (dIdx d).2]) := by
  have h : ∃ r, calL EE 72 [.ptr 0 0] [dbox d] = some r ∧ r = (.ret (.st (dIdx d).1.row), [dbox (dIdx d).2]) := by
    refine fn_loc f72 (by simp) ?_
    unfold c72
    have a1 := (goNum d).1
    have a2 := (goTxt (dNum d).2).1
    simp only [go_sem, reduceIte, Nat.reduceEqDiff, Nat.reduceAdd, Nat.reduceLeDiff, Nat.reduceLT]
    refine WC_m (id := 0) rfl rfl rfl (decNum d (by omega)) ren_s ?_
    simp only [go_sem, reduceIte, Nat.reduceEqDiff, Nat.reduceAdd, Nat.reduceLeDiff, Nat.reduceLT]
    refine WC_m (id := 0) rfl rfl rfl (decTxt (dNum d).2 (by omega)) ren_s ?_
    simp only [go_sem, reduceIte, Nat.reduceEqDiff, Nat.reduceAdd, Nat.reduceLeDiff, Nat.reduceLT]
    refine WC_l (id := 0) rfl rfl rfl (lisInt _ (by omega)) (by omega) ?_
    intro p1 H1 o1 x1 hd1 hf1
    simp only [go_sem, reduceIte, Nat.reduceEqDiff, Nat.reduceAdd, Nat.reduceLeDiff, Nat.reduceLT]
    have hB : H1 1 = .box 51 (List.map PV.s [.int .i64 0, .str [], .nils]) := hf1 1 (by omega) (by omega)
    obtain ⟨c1, c2⟩ := exa_cell x1
    have hb : bldA (List.map PV.s [.int .i64 (dNum d).1, .str (dTxt (dNum d).2).1, .nils]) [(2, 1, p1)] = some (.agg [.i64 (dNum d).1, .s (.str (dTxt (dNum d).2).1), p1]) := by
      simp [bldA, buildM, c1, setCells, bnd_some]
    simp only [go_sem, reduceIte, Nat.reduceEqDiff, Nat.reduceAdd, Nat.reduceLeDiff, Nat.reduceLT, hb, hB, storeB_box, PV.cells]
    refine ⟨by simp only [List.all_cons, List.all_nil, c2]; rfl, ?_⟩
    simp only [List.map_cons, List.map_nil, List.set_cons_zero, List.set_cons_succ, loadP_t, List.length_cons, List.length_nil, Nat.zero_add, Nat.reduceAdd, Nat.le_refl, if_true, List.drop_zero, List.take_succ_cons, List.take_zero, bnd_some, WX_some]
    rw [fin_ag (l := (dIdx d).1.row) (d := (dIdx d).2) ?_ ?_, WX_some]
    · have h1 : ∀ X : HObj, own 1 (H1.set 1 X) p1 = some (.s ((Slc.ofL (dInts (dTxt (dNum d).2).2).1).sv intRow)) := fun X => exa_own (m := 1) (f := intRow) (o1.kept (Nat.le_refl _) fun j hj _ => if_neg (by omega)) x1 (by omega)
      simp only [ownL, own, bnd_some]
      rw [h1]
      rfl
    · exact (if_neg (by omega)).trans hd1
  obtain ⟨r, h1, rfl⟩ := h
  exact h1
theorem rdIdx : Rd 72 (fun x : Idx => .st x.row) dIdx := ⟨rfl, rfl, fun d hd => decIdx d hd, goIdx⟩
theorem lisIdx (d : Dst) (hd : d.1.l.length ≤ 1000000000) : LisC 71 72 51 3 d (dList dIdx d).2 ((dList dIdx d).1.map Idx.row) :=
  lis (zero := [.int .i64 0, .str [], .nils]) f71 rfl (fun _ => rfl) (fun x _ => ren_st _) (fun x _ => row1_st rfl) rdIdx d hd
theorem decViw (d : Dst) (hl : d.1.l.length ≤ 1000000000) : calL EE 29 [.ptr 0 0] [dbox d] = some (.ret (.st (dViw d).1.row), [dbox (dViw d).2]) := by
  have h : ∃ r, calL EE 29 [.ptr 0 0] [dbox d] = some r ∧ r = (.ret (.st (dViw d).1.row), [dbox (dViw d).2]) := by
    refine fn_loc f29 (by simp) ?_
    unfold c29
    have a1 := (goNum d).1
    have a2 := (goTxt (dNum d).2).1
    have a3 := (goTxt (dTxt (dNum d).2).2).1
    simp only [go_sem, reduceIte, Nat.reduceEqDiff, Nat.reduceAdd, Nat.reduceLeDiff, Nat.reduceLT]
    refine WC_m (id := 0) rfl rfl rfl (decNum d (by omega)) ren_s ?_
    simp only [go_sem, reduceIte, Nat.reduceEqDiff, Nat.reduceAdd, Nat.reduceLeDiff, Nat.reduceLT]
    refine WC_m (id := 0) rfl rfl rfl (decTxt (dNum d).2 (by omega)) ren_s ?_
    simp only [go_sem, reduceIte, Nat.reduceEqDiff, Nat.reduceAdd, Nat.reduceLeDiff, Nat.reduceLT]
    refine WC_m (id := 0) rfl rfl rfl (decTxt _ (by omega)) ren_s ?_
    simp only [go_sem, reduceIte, Nat.reduceEqDiff, Nat.reduceAdd, Nat.reduceLeDiff, Nat.reduceLT]
    refine WC_m (id := 0) rfl rfl rfl (decNum _ (by omega)) ren_s ?_
    simp only [go_sem, reduceIte, Nat.reduceEqDiff, Nat.reduceAdd, Nat.reduceLeDiff, Nat.reduceLT]
    rw [fin_st (d := (dViw d).2) rfl, WX_some]
    rfl
  obtain ⟨r, h1, rfl⟩ := h
  exact h1
theorem rdViw : Rd 29 (fun x : Viw => .st x.row) dViw := ⟨rfl, rfl, fun d hd => decViw d hd, goViw⟩
theorem lisViw (d : Dst) (hd : d.1.l.length ≤ 1000000000) : LisC 28 29 53 4 d (dList dViw d).2 ((dList dViw d).1.map Viw.row) :=
  lis (zero := [.int .i64 0, .str [], .str [], .bool false]) f28 rfl (fun _ => rfl) (fun x _ => ren_st _) (fun x _ => row1_st rfl) rdViw d hd
theorem storeB_p {p : PV} (h1 : p.cells = [p]) (h2 : cellOk p = true) (off : Nat) (H : Ob) (id : Nat) (ty : TypeId) (cs : List PV) (h3 : off + 1 ≤ cs.length) : storeB 1 off p H id (.box ty cs) = some (H.set id (.box ty (cs.set off p))) := by
  rw [storeB_box, h1]
  rw [if_pos ⟨rfl, h3, by simp only [List.all_cons, List.all_nil, h2]; rfl⟩]
  rfl
theorem decTab (d : Dst) (hl : d.1.l.length ≤ 1000000000) : calL EE 27 [.ptr 0 0] [dbox d] = some (.ret (.st (dTab d).1.row), [dbox (dTab d).2]) := by
  have h : ∃ r, calL EE 27 [.ptr 0 0] [dbox d] = some r ∧ r = (.ret (.st (dTab d).1.row), [dbox (dTab d).2]) := by
    refine fn_loc f27 (by simp) ?_
    unfold c27
    have a1 := (goNum d).1
    have a2 := (goTxt (dNum d).2).1
    have a3 := (goList goCol (dTxt (dNum d).2).2).1
    have a4 := (goInts (dList dCol (dTxt (dNum d).2).2).2).1
    simp only [go_sem, reduceIte, Nat.reduceEqDiff, Nat.reduceAdd, Nat.reduceLeDiff, Nat.reduceLT]
    refine WC_m (id := 0) rfl rfl rfl (decNum d (by omega)) ren_s ?_
    simp only [go_sem, reduceIte, Nat.reduceEqDiff, Nat.reduceAdd, Nat.reduceLeDiff, Nat.reduceLT]
    refine WC_m (id := 0) rfl rfl rfl (decTxt (dNum d).2 (by omega)) ren_s ?_
    simp only [go_sem, reduceIte, Nat.reduceEqDiff, Nat.reduceAdd, Nat.reduceLeDiff, Nat.reduceLT]
    refine WC_l (id := 0) rfl rfl rfl (lisCol _ (by omega)) (by omega) ?_
    intro p1 H1 o1 x1 hd1 hf1
    have hB1 : H1 5 = .box 47 [.i64 (dNum d).1, .s (.str (dTxt (dNum d).2).1), .s .nils, .s .nils, .s .nils] := hf1 5 (by omega) (by omega)
    have hA1 : H1 1 = .box 47 [.i64 0, .s (.str []), .s .nils, .s .nils, .s .nils] := hf1 1 (by omega) (by omega)
    obtain ⟨c1, c2⟩ := exa_cell x1
    simp only [go_sem, reduceIte, Nat.reduceEqDiff, Nat.reduceAdd, Nat.reduceLeDiff, Nat.reduceLT, hB1, storeB_p c1 c2, List.length_cons, List.length_nil, Nat.zero_add]
    refine WC_l (n := 20) (id := 0) rfl rfl ((if_neg (by omega)).trans hd1) (lisInt _ (by omega)) (by omega) ?_
    intro p2 H2 o2 x2 hd2 hf2
    have hB2 : H2 5 = .box 47 [.i64 (dNum d).1, .s (.str (dTxt (dNum d).2).1), p1, .s .nils, .s .nils] := (hf2 5 (by omega) (by omega)).trans (if_pos rfl)
    have hA2 : H2 1 = .box 47 [.i64 0, .s (.str []), .s .nils, .s .nils, .s .nils] := (hf2 1 (by omega) (by omega)).trans ((if_neg (by omega)).trans hA1)
    have o12 := o1.kept (n' := 15) (H' := H2) (Nat.le_refl _) fun j hj hj2 => (hf2 j (by omega) (by omega)).trans (if_neg (by omega))
    obtain ⟨c3, c4⟩ := exa_cell x2
    simp only [go_sem, reduceIte, Nat.reduceEqDiff, Nat.reduceAdd, Nat.reduceLeDiff, Nat.reduceLT, hB2, storeB_p c3 c4, List.length_cons, List.length_nil, Nat.zero_add]
    refine WC_l (n := 26) (id := 0) rfl rfl ((if_neg (by omega)).trans hd2) (lisIdx _ (by have : (dInts (dList dCol (dTxt (dNum d).2).2).2).2.1.l.length ≤ _ := a4; omega)) (by omega) ?_
    intro p3 H3 o3 x3 hd3 hf3
    have hB3 : H3 5 = .box 47 [.i64 (dNum d).1, .s (.str (dTxt (dNum d).2).1), p1, p2, .s .nils] := (hf3 5 (by omega) (by omega)).trans (if_pos rfl)
    have hA3 : H3 1 = .box 47 [.i64 0, .s (.str []), .s .nils, .s .nils, .s .nils] := (hf3 1 (by omega) (by omega)).trans ((if_neg (by omega)).trans hA2)
    obtain ⟨c5, c6⟩ := exa_cell x3
    simp only [go_sem, reduceIte, Nat.reduceEqDiff, Nat.reduceAdd, Nat.reduceLeDiff, Nat.reduceLT, hB3, hA3, storeB_p c5 c6, List.length_cons, List.length_nil, Nat.zero_add, loadB_box, loadP_t, List.drop_zero, List.take_succ_cons, List.take_zero, List.set_cons_succ, List.set_cons_zero, storeB_box, PV.cells, Nat.le_refl]
    refine ⟨by simp only [List.all_cons, List.all_nil, c2, c4, c6]; rfl, ?_⟩
    generalize HObj.box 47 _ = bx
    generalize hHf : (H3.set 5 bx).set 1 bx = Hf
    have hf : ∀ j, j ≠ 5 → j ≠ 1 → Hf j = H3 j := fun j h5 h1 => by
      rw [← hHf]
      exact (if_neg h1).trans (if_neg h5)
    have e1 := exa_own (m := 1) (f := Col.row) (o12.kept (n' := 15) (H' := Hf) (Nat.le_refl _) fun j hj hj2 => (hf j (by omega) (by omega)).trans ((hf3 j (by omega) (by omega)).trans (if_neg (by omega)))) x1 (by omega)
    have e2 := exa_own (m := 1) (f := intRow) (o2.kept (n' := 21) (H' := Hf) (Nat.le_refl _) fun j hj hj2 => (hf j (by omega) (by omega)).trans ((hf3 j (by omega) (by omega)).trans (if_neg (by omega)))) x2 (by omega)
    have e3 := exa_own (m := 1) (f := Idx.row) (o3.kept (n' := 27) (H' := Hf) (Nat.le_refl _) fun j hj hj2 => hf j (by omega) (by omega)) x3 (by omega)
    rw [fin_ag (l := (dTab d).1.row) (d := (dTab d).2) ?_ ?_, WX_some]
    · simp only [ownL, e1, e2, e3, bnd_some]
      rfl
    · exact (hf 0 (by omega) (by omega)).trans hd3
  obtain ⟨r, h1, rfl⟩ := h
  exact h1
theorem rdTab : Rd 27 (fun x : Tab => .st x.row) dTab := ⟨rfl, rfl, fun d hd => decTab d hd, goTab⟩
theorem lisTab (d : Dst) (hd : d.1.l.length ≤ 1000000000) : LisC 26 27 47 5 d (dList dTab d).2 ((dList dTab d).1.map Tab.row) :=
  lis (zero := [.int .i64 0, .str [], .nils, .nils, .nils]) f26 rfl (fun _ => rfl) (fun x _ => ren_st _) (fun x _ => row1_st rfl) rdTab d hd
end Go.Vm
