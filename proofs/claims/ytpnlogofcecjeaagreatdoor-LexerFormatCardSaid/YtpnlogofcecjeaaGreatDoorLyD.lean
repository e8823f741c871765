/- Chapter 23: the law LexerFormat. -/
import Derived.Test.YtpnlogofcecjeaaGreatDoorLyC
set_option linter.unusedVariables false
set_option linter.unusedSimpArgs false
set_option maxRecDepth 100000
namespace Go.Vm
open Go

theorem lendL_app {H : Ob} {post : List PV} : ∀ {pre : List PV}, pureA pre = true → lendL H (pre ++ post) = bnd (lendL H post) fun b => some (pre ++ b.1, b.2)
  | [], _ => by rw [List.nil_append]; cases lendL H post <;> rfl
  | p :: r, h => by
    have h1 : pureA [p] = true ∧ pureA r = true := by
      cases p with
      | s v => exact ⟨rfl, h⟩
      | agg l => simp only [pureA, Bool.and_eq_true] at h ⊢; exact ⟨⟨h.1, trivial⟩, h.2⟩
      | _ => cases h
    have e1 := (pure_lend (H := H) h1.1).1
    rw [lendL_cons] at e1
    cases hp : lend H p with
    | none => rw [hp] at e1; cases e1
    | some a =>
      rw [hp, bnd_some, lendL_nil, bnd_some] at e1
      injection e1 with e1
      injection e1 with e2 e3
      injection e2 with e2 _
      rw [List.cons_append, lendL_cons, hp, bnd_some, e3, lendL_app h1.2, e2]
      cases lendL H post <;> rfl
theorem idbL_app {a b : List PV} (ha : idbL a = 0) (hb : idbL b = 0) : idbL (a ++ b) = 0 := by
  induction a with
  | nil => exact hb
  | cons p a ih =>
    simp only [idbL] at ha
    simp only [List.cons_append, idbL]
    have := ih (by omega)
    omega
theorem WC_own1m {E : Env} {α : Type} {f : α → List SV} {l : List α} {lo e sz H n0 p} {g : FuncId} {v : PV} {n d T r Q} (pre post : List PV) (h : Own lo e sz H n0 p (l.map f)) (hr : E.ref g = false) (hp : pureA pre = true) (hq : pureA post = true)
    (hc : ∀ s : Slc α, s.l = l → calL E g (pre ++ .s (s.sv f) :: post) [] = some (.ret v, []))
    (hk : ∀ H', Own lo e sz H' n0 p (l.map f) → (∀ j, Off p j → H' j = H j) → WS E false r (putT T d v) H' n Q) : WCs E false g (pre ++ p :: post) H n d T r Q := by
  obtain ⟨s, H', h1, h2, h3, h4⟩ := h.lend
  refine WC_lend hr (a := pre ++ .s (s.sv f) :: post) (H1 := H') ?_ ?_ (fun h => by cases h) (hc s h2) (hk H' h3 h4)
  · rw [lendL_app hp, lendL_cons, h1, bnd_some, (pure_lend hq).1]; rfl
  · refine idbL_app (pure_lend (H := H) hp).2.1 ?_
    simp only [idbL, idb, (pure_lend (H := H) hq).2.1]
    rfl
theorem strsOf_map : ∀ l : List (List UInt8), strsOf (l.map txRow) = some l
  | [] => rfl
  | s :: l => by
    have e : strsOf ((s :: l).map txRow) = bnd (strsOf (l.map txRow)) fun q => some (s :: q) := rfl
    rw [e, strsOf_map l]
    rfl
theorem join_cal (s : Slc (List UInt8)) (hl : s.l.length ≤ 1000000) (hj : (Lib.join s.l [32]).length ≤ 1000000000) : calL EE 42 [.s (s.sv txRow), .str [32]] [] = some (.ret (.str (Lib.join s.l [32])), []) := by
  refine ext_cal (g := joinX) (v := .str (Lib.join s.l [32])) rfl ?_ own_s
  have hr : rowsS (s.sv txRow) = some (s.l.map txRow) := by cases s <;> rfl
  unfold joinX
  simp only [hr, bnd_some, strsOf_map]
  rw [if_pos ⟨by omega, by omega⟩]
theorem fm_join (ts : List Tok) : Lib.join (ts.map ft) [32] = fm ts := by
  have key : ∀ r : List Tok, Lib.joinTail [32] (r.map ft) = jt r := by
    intro r
    induction r with
    | nil => rfl
    | cons t r ih =>
      show [32] ++ ft t ++ Lib.joinTail [32] (r.map ft) = _
      rw [ih]; rfl
  cases ts with
  | nil => rfl
  | cons t r => rw [List.map_cons, Lib.join_cons, key]; rfl
theorem ft_le {t : Tok} (h : t.t.length ≤ 1000) : (ft t).length ≤ 2002 := by
  unfold ft ftk
  have := q2_len t.t
  split
  · simp only [List.length_cons, List.length_append, List.length_nil]; omega
  · omega
theorem jt_le : ∀ {ts : List Tok}, (∀ t ∈ ts, t.t.length ≤ 1000) → (jt ts).length ≤ 2003 * ts.length
  | [], _ => Nat.le_refl _
  | t :: r, h => by
    have h1 := ft_le (h t (List.mem_cons_self ..))
    have h2 := jt_le (ts := r) fun u hu => h u (List.mem_cons_of_mem _ hu)
    show (32 :: (ft t ++ jt r)).length ≤ _
    simp only [List.length_cons, List.length_append]
    omega
theorem fm_le {ts : List Tok} (h : ∀ t ∈ ts, t.t.length ≤ 1000) : (fm ts).length ≤ 2003 * ts.length := by
  have := jt_le h
  cases ts with
  | nil => exact Nat.le_refl _
  | cons t r => rw [jt_fm, List.length_cons] at this; omega
theorem jt_app (a b : List Tok) : jt (a ++ b) = jt a ++ jt b := by
  induction a with
  | nil => rfl
  | cons t r ih =>
    show 32 :: (ft t ++ jt (r ++ b)) = 32 :: (ft t ++ jt r) ++ jt b
    rw [ih]; simp
theorem fm_snoc (ts : List Tok) (t : Tok) : fm (ts ++ [t]) = if ts = [] then ft t else fm ts ++ [32] ++ ft t := by
  cases ts with
  | nil => rw [if_pos rfl]; show ft t ++ [] = _; rw [List.append_nil]
  | cons u r =>
    rw [if_neg (by simp)]
    show ft u ++ jt (r ++ [t]) = ft u ++ jt r ++ [32] ++ ft t
    rw [jt_app]
    show ft u ++ (jt r ++ (32 :: (ft t ++ []))) = _
    simp
theorem fmt_ok (x : Slc Tok) (hx : x.l.length ≤ 1000) (ht : ∀ t ∈ x.l, t.t.length ≤ 1000) : calL EE 25 [.s (x.sv Tok.row)] [] = some (.ret (.str (fm x.l)), []) := by
  refine fn_ok f25 (by simp) ?_
  unfold c25
  simp only [go_sem, reduceIte, Nat.reduceEqDiff, Nat.reduceAdd, Nat.reduceLeDiff, Nat.reduceLT]
  refine WP_scan rfl 8 x.l.length (fun _ => True) (fun j T H n => Own 0 9 1 H n (T 3) (((x.l.take j).map ft).map txRow)) rfl .nil ?_ ?_
  · rintro j T' H' n' hlt hf hi ho _
    have g6 : T' 6 = .s (x.sv Tok.row) := hf 6 rfl
    have g7 : T' 7 = .i64 x.l.length := hf 7 rfl
    clear hf
    have hji : (j : Int) < x.l.length := by omega
    have hj0 : (0 : Int) ≤ j := by omega
    have hwj := wrap_suc (j := j) (by omega)
    have hmem := ht _ (getD_mem (l := x.l) default hlt)
    have hnx : ((x.l.take (j + 1)).map ft).map txRow = ((x.l.take j).map ft).map txRow ++ [txRow (ft (x.l.getD j default))] := by
      rw [take_step default hlt, List.map_append, List.map_append]; rfl
    rw [hnx]
    have hle : (((x.l.take j).map ft).map txRow).length ≤ 1000 := by rw [List.length_map, List.length_map, List.length_take]; omega
    generalize ((x.l.take j).map ft).map txRow = rows at ho hle ⊢
    have hld : ∀ HH : Ob, loadM true 3 HH (.eptr (x.l.map Tok.row) j 0) = some (.st (x.l.getD j default).row) := fun HH => by
      rw [load_eptr, if_pos hlt]; rfl
    generalize x.l.getD j default = t at hmem hld ⊢
    have er : ∀ {HH : Ob} {w : List UInt8}, row1 1 false HH (.s (.str w)) = some ([SV.str w], HH) := row1_s
    cases hk : decide (t.k = 3) with
    | true =>
      have hft : ft t = 39 :: (q2 t.t ++ [39]) := by unfold ft ftk; rw [if_pos (of_decide_eq_true hk)]
      simp only [go_sem, reduceIte, Nat.reduceEqDiff, Nat.reduceAdd, Nat.reduceLeDiff, Nat.reduceLT, g6, g7, hi, hji, hj0, and_self, decide_true, ia_tok, Int.toNat_natCast, hld, Tok.row, hk]
      refine WC_p rfl rfl (quote_ok _ (by omega)) ?_
      simp only [go_sem, reduceIte, Nat.reduceEqDiff, Nat.reduceAdd, Nat.reduceLeDiff, Nat.reduceLT]
      have ho1 : ∀ z, Own 0 9 1 (H'.set (n' + 1 + 2) z) n' (T' 3) rows := fun z => ho.kept (Nat.le_refl _) (fun j _ hj => by rw [set_at, if_neg (by omega)])
      refine WX_app (ho1 _) rows_slice (by simp) (by simp; omega) (by omega) (by omega) ?_
      intro p1 H2 ho2 hfr2 hof2
      simp only [go_sem, reduceIte, Nat.reduceEqDiff, Nat.reduceAdd, Nat.reduceLeDiff, Nat.reduceLT, hi, hwj]
      rw [hft]
      exact ho2.kept (by omega) (fun _ _ _ => rfl)
    | false =>
      have hft : ft t = t.t := by unfold ft ftk; rw [if_neg (of_decide_eq_false hk)]
      simp only [go_sem, reduceIte, Nat.reduceEqDiff, Nat.reduceAdd, Nat.reduceLeDiff, Nat.reduceLT, g6, g7, hi, hji, hj0, and_self, decide_true, ia_tok, Int.toNat_natCast, hld, Tok.row, hk]
      have ho1 : ∀ z, Own 0 9 1 (H'.set (n' + 1 + 2) z) n' (T' 3) rows := fun z => ho.kept (Nat.le_refl _) (fun j _ hj => by rw [set_at, if_neg (by omega)])
      refine WX_app (ho1 _) rows_slice (by simp) (by simp; omega) (by omega) (by omega) ?_
      intro p1 H2 ho2 hfr2 hof2
      simp only [go_sem, reduceIte, Nat.reduceEqDiff, Nat.reduceAdd, Nat.reduceLeDiff, Nat.reduceLT, hi, hwj]
      rw [hft]
      exact ho2.kept (by omega) (fun _ _ _ => rfl)
  · rintro T' H' n' hf hi ho _
    have g7 : T' 7 = .i64 x.l.length := hf 7 rfl
    clear hf
    rw [List.take_length] at ho
    simp only [go_sem, reduceIte, Nat.reduceEqDiff, Nat.reduceAdd, Nat.reduceLeDiff, Nat.reduceLT, g7, hi, Int.lt_irrefl, decide_false]
    have hle := fm_le ht
    refine WC_own1m (v := .str (fm x.l)) [] [.s (.str [32])] ho rfl rfl rfl (fun s hs => ?_) ?_
    · have hj := fm_join x.l
      rw [← hs] at hj
      have hsl : s.l.length ≤ 1000 := by rw [hs, List.length_map]; exact hx
      have := join_cal s (by omega) (by rw [hj]; omega)
      rw [hj] at this
      exact this
    · intro H2 ho2 hof
      simp only [go_sem, reduceIte, Nat.reduceEqDiff, Nat.reduceAdd, Nat.reduceLeDiff, Nat.reduceLT]
theorem refFmt_ok (x : Slc Tok) (hx : x.l.length ≤ 1000) (ht : ∀ t ∈ x.l, t.t.length ≤ 1000) : calL EE 26 [.s (x.sv Tok.row)] [] = some (.ret (.str (fm x.l)), []) := by
  refine fn_ok f26 (by simp) ?_
  unfold c26
  simp only [go_sem, reduceIte, Nat.reduceEqDiff, Nat.reduceAdd, Nat.reduceLeDiff, Nat.reduceLT]
  refine WP_scan rfl 4 x.l.length (fun _ => True) (fun j T H n => T 3 = .str (fm (x.l.take j))) rfl rfl ?_ ?_
  · rintro j T' H' n' hlt hf hi h3 _
    have g0 : T' 0 = .s (x.sv Tok.row) := hf 0 rfl
    clear hf
    have hji : (j : Int) < x.l.length := by omega
    have hj0 : (0 : Int) ≤ j := by omega
    have hwj := wrap_suc (j := j) (by omega)
    have hmem := ht _ (getD_mem (l := x.l) default hlt)
    have hle := fm_le (ts := x.l.take j) fun t h => ht t (List.mem_of_mem_take h)
    have hq := q2_len (x.l.getD j default).t
    rw [List.length_take] at hle
    rw [take_step default hlt, fm_snoc]
    have hld : ∀ HH : Ob, loadM false 1 HH (.eptr (x.l.map Tok.row) j 0) = some (.i64 (x.l.getD j default).k) := fun HH => by
      rw [load_eptr, if_pos hlt]; rfl
    have hld2 : ∀ HH : Ob, loadM false 1 HH (.eptr (x.l.map Tok.row) j (0 + 2)) = some (.str (x.l.getD j default).t) := fun HH => by
      rw [load_eptr, if_pos hlt]; rfl
    have hte : x.l.take j = [] ↔ j = 0 := by
      rw [List.take_eq_nil_iff]
      constructor
      · rintro (h | h)
        · exact h
        · rw [h] at hlt; simp at hlt
      · exact fun h => .inl h
    generalize x.l.getD j default = t at hmem hq hld hld2 ⊢
    have hu0 : j = 0 → fm (x.l.take j) = [] := by rintro rfl; rfl
    generalize fm (x.l.take j) = u at h3 hle hu0 ⊢
    have hul : u.length ≤ 2003000 := by omega
    cases hk : decide (t.k = 3) with
    | true =>
      have hft : ft t = 39 :: (q2 t.t ++ [39]) := by unfold ft ftk; rw [if_pos (of_decide_eq_true hk)]
      by_cases hj : j = 0
      · rw [if_pos (hte.2 hj)]
        have hjd : decide ((0 : Int) < j) = false := decide_eq_false (by omega)
        simp only [go_sem, reduceIte, Nat.reduceEqDiff, Nat.reduceAdd, Nat.reduceLeDiff, Nat.reduceLT, g0, h3, hi, hji, hj0, and_self, decide_true, ia_tok, Int.toNat_natCast, hld, hld2, hk, hjd]
        refine WC_p rfl rfl (refQuote_ok _ (by omega)) ?_
        have hu := hu0 hj
        subst hu
        simp only [go_sem, reduceIte, Nat.reduceEqDiff, Nat.reduceAdd, Nat.reduceLeDiff, Nat.reduceLT, h3, hi, hwj]
        exact ⟨by simp only [List.length_append, List.length_cons, List.length_nil]; omega, by rw [hft]; rfl⟩
      · rw [if_neg (fun h => hj (hte.1 h))]
        have hjd : decide ((0 : Int) < j) = true := decide_eq_true (by omega)
        simp only [go_sem, reduceIte, Nat.reduceEqDiff, Nat.reduceAdd, Nat.reduceLeDiff, Nat.reduceLT, g0, h3, hi, hji, hj0, and_self, decide_true, ia_tok, Int.toNat_natCast, hld, hld2, hk, hjd]
        refine ⟨by omega, ?_⟩
        refine WC_p rfl rfl (refQuote_ok _ (by omega)) ?_
        simp only [go_sem, reduceIte, Nat.reduceEqDiff, Nat.reduceAdd, Nat.reduceLeDiff, Nat.reduceLT, h3, hi, hwj]
        exact ⟨by simp only [List.length_append, List.length_cons, List.length_nil]; omega, by rw [hft]⟩
    | false =>
      have hft : ft t = t.t := by unfold ft ftk; rw [if_neg (of_decide_eq_false hk)]
      by_cases hj : j = 0
      · rw [if_pos (hte.2 hj)]
        have hjd : decide ((0 : Int) < j) = false := decide_eq_false (by omega)
        have hu := hu0 hj
        subst hu
        simp only [go_sem, reduceIte, Nat.reduceEqDiff, Nat.reduceAdd, Nat.reduceLeDiff, Nat.reduceLT, g0, h3, hi, hji, hj0, and_self, decide_true, ia_tok, Int.toNat_natCast, hld, hld2, hk, hjd, hwj]
        exact ⟨by omega, by rw [hft]; rfl⟩
      · rw [if_neg (fun h => hj (hte.1 h))]
        have hjd : decide ((0 : Int) < j) = true := decide_eq_true (by omega)
        simp only [go_sem, reduceIte, Nat.reduceEqDiff, Nat.reduceAdd, Nat.reduceLeDiff, Nat.reduceLT, g0, h3, hi, hji, hj0, and_self, decide_true, ia_tok, Int.toNat_natCast, hld, hld2, hk, hjd, hwj]
        exact ⟨by omega, by simp only [List.length_append, List.length_cons, List.length_nil]; omega, by rw [hft]⟩
  · rintro T' H' n' hf hi h3 _
    have g0 : T' 0 = .s (x.sv Tok.row) := hf 0 rfl
    clear hf
    rw [List.take_length] at h3
    simp only [go_sem, reduceIte, Nat.reduceEqDiff, Nat.reduceAdd, Nat.reduceLeDiff, Nat.reduceLT, g0, h3, hi, len_hsl, Int.lt_irrefl, decide_false]
    trace_state
theorem t7 (s : List UInt8) (q : Slc Tok) (hs : s.length ≤ 9223372036854775807) (hq : q.l.length ≤ 9223372036854775807) : ∃ H' n', runL EE 7 [.str s, .s (q.sv Tok.row)] (Ob.of []) 0 = some (.ret (.bool true), H', n') := by
  refine run_true ?_
  refine fn_run (R := fun v _ _ => v = .bool true) f7 (by simp) ?_
  unfold c7
  simp only [go_sem, reduceIte, Nat.reduceEqDiff, Nat.reduceAdd, Nat.reduceLeDiff, Nat.reduceLT]
  refine WC_p rfl rfl awake23 ?_
  simp only [go_sem, reduceIte, Nat.reduceEqDiff, Nat.reduceAdd, Nat.reduceLeDiff, Nat.reduceLT, Bool.not_true, Bool.false_or, Bool.or_eq_true, decide_eq_true_eq]
  by_cases hb : 600 < s.length ∨ 20 < q.l.length
  · rw [if_pos (by omega)]
    refine WC_p rfl rfl awake23 ?_
    simp only [go_sem, reduceIte, Nat.reduceEqDiff, Nat.reduceAdd, Nat.reduceLeDiff, Nat.reduceLT]
  · rw [if_neg (by omega)]
    refine WP_scan rfl 28 q.l.length (fun j => (q.l.getD j default).t.length ≤ 300) (fun _ _ _ _ => True) rfl trivial ?_ ?_
    · rintro j T' H' n' hlt hf hi _ _
      have g26 : T' 26 = .s (q.sv Tok.row) := hf 26 rfl
      have g27 : T' 27 = .i64 q.l.length := hf 27 rfl
      clear hf
      have hji : (j : Int) < q.l.length := by omega
      have hj0 : (0 : Int) ≤ j := by omega
      have hwj := wrap_suc (j := j) (by omega)
      have hld : ∀ HH : Ob, loadM true 3 HH (.eptr (q.l.map Tok.row) j 0) = some (.st (q.l.getD j default).row) := fun HH => by
        rw [load_eptr, if_pos hlt]; rfl
      obtain ⟨t, htq⟩ : ∃ t, q.l.getD j default = t := ⟨_, rfl⟩
      rw [htq] at hld
      simp only [go_sem, reduceIte, Nat.reduceEqDiff, Nat.reduceAdd, Nat.reduceLeDiff, Nat.reduceLT, g26, g27, hi, hji, hj0, and_self, decide_true, ia_tok, Int.toNat_natCast, hld, Tok.row, hwj, decide_eq_true_eq]
      split
      · trivial
      · rw [htq]; omega
    · rintro T' H' n' hf hi _ hp
      have g0 : T' 0 = .str s := hf 0 rfl
      have g1 : T' 1 = .s (q.sv Tok.row) := hf 1 rfl
      have g27 : T' 27 = .i64 q.l.length := hf 27 rfl
      clear hf
      have ht : ∀ t ∈ q.l, t.t.length ≤ 1000 := fun t h => by
        obtain ⟨j, hj, e⟩ := List.getElem_of_mem h
        have := hp j hj
        rw [List.getD_eq_getElem?_getD, List.getElem?_eq_getElem hj] at this
        rw [← e]
        exact Nat.le_trans this (by omega)
      simp only [go_sem, reduceIte, Nat.reduceEqDiff, Nat.reduceAdd, Nat.reduceLeDiff, Nat.reduceLT, g1, g27, hi, Int.lt_irrefl, decide_false]
      refine WC_p rfl rfl (fmt_ok q (by omega) ht) ?_
      simp only [go_sem, reduceIte, Nat.reduceEqDiff, Nat.reduceAdd, Nat.reduceLeDiff, Nat.reduceLT, g1]
      refine WC_p rfl rfl (refFmt_ok q (by omega) ht) ?_
      simp only [go_sem, reduceIte, Nat.reduceEqDiff, Nat.reduceAdd, Nat.reduceLeDiff, Nat.reduceLT, g0, decide_true, Bool.not_true]
      obtain ⟨v, hv, hr⟩ := scan_ok s (by omega)
      refine WC_p rfl rfl hv ?_
      rcases hr with ⟨h16, _⟩ | ⟨_, ⟨e, he, rfl⟩ | ⟨l, q2, hl, hq2, rfl⟩⟩
      · omega
      · have c1 : decide ((3 : Int) = 0) = false := rfl
        simp only [go_sem, reduceIte, Nat.reduceEqDiff, Nat.reduceAdd, Nat.reduceLeDiff, Nat.reduceLT, ext2.1, ext2.2.1, ext2.2.2, c1, Bool.not_false]
      · subst hq2
        obtain ⟨a2, hst⟩ := scan_steps s.length sk_len hl
        have hch : Chn s 0 q2.l := (steps_chn hst (skN_drop s).symm).mono (by omega)
        have hsl := scan_len _ hl
        obtain ⟨fl, ftl⟩ := fm_len hch
        obtain ⟨m, hm, hkey⟩ := fmt_law hch
        simp only [go_sem, reduceIte, Nat.reduceEqDiff, Nat.reduceAdd, Nat.reduceLeDiff, Nat.reduceLT, ext2.1, ext2.2.1, ext2.2.2, decide_true, Bool.not_true]
        refine WC_p rfl rfl (fmt_ok q2 (by omega) (fun t h => by have := (ftl t h).1; omega)) ?_
        simp only [go_sem, reduceIte, Nat.reduceEqDiff, Nat.reduceAdd, Nat.reduceLeDiff, Nat.reduceLT]
        obtain ⟨v3, hv3, hr3⟩ := scan_ok (fm q2.l) (by omega)
        refine WC_p rfl rfl hv3 ?_
        rcases hr3 with ⟨h16, _⟩ | ⟨_, ⟨e, he, rfl⟩ | ⟨l3, q3, hl3, hq3, rfl⟩⟩
        · omega
        · rw [hm] at he; cases he
        · rw [hm] at hl3
          injection hl3 with hl3
          subst hl3
          simp only [go_sem, reduceIte, Nat.reduceEqDiff, Nat.reduceAdd, Nat.reduceLeDiff, Nat.reduceLT, ext2.1, ext2.2.1, ext2.2.2, decide_true, Bool.not_true]
          refine WC_p rfl rfl (alike_ok q2 q3 (by omega) (by rw [hq3, hkey])) ?_
          simp only [go_sem, reduceIte, Nat.reduceEqDiff, Nat.reduceAdd, Nat.reduceLeDiff, Nat.reduceLT, decide_true, Bool.and_self]
          try rfl
end Go.Vm
