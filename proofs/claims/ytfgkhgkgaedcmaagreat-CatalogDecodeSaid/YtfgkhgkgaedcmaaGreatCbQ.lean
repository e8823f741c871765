/- The reference's Encode. -/
import Derived.Test.YtfgkhgkgaedcmaaGreatCbP
set_option linter.unusedVariables false
set_option linter.unusedSimpArgs false
set_option maxRecDepth 100000
namespace Go.Vm

theorem rlen (l : List UInt8) : ∀ c ∈ l.map bRow, c.length = 1 := fun c hc => by
  obtain ⟨b, _, rfl⟩ := List.mem_map.1 hc
  rfl
theorem rN (n : Int) (h0 : 0 ≤ n) (h1 : n < 9223372036854775808) (l : List UInt8) (hl : l.length ≤ 1000000000) : AppC true EE 32 5 1 [.s (.int .i64 n)] (l.map bRow) (l.map bRow ++ (uvE n.toNat).map bRow) := refNum n h0 h1 _ (mapl hl) (rlen l)
theorem rS (t : List UInt8) (ht : t.length ≤ 10000000) (l : List UInt8) (hl : l.length ≤ 900000000) : AppC true EE 33 5 1 [.s (.str t)] (l.map bRow) (l.map bRow ++ (encS t).map bRow) := refStr t ht _ (mapl hl) (rlen l)
theorem rI (s : Slc Int) (hs0 : s.l.length ≤ 1000000) (hi : ∀ i ∈ s.l, 0 ≤ i ∧ i < 9223372036854775808) (l : List UInt8) (hl : l.length ≤ 900000000) : AppC true EE 34 5 1 [.s (s.sv intRow)] (l.map bRow) (l.map bRow ++ (encI s.l).map bRow) := refNums s hs0 hi _ (mapl hl) (rlen l)
theorem heldN {T : Nat → PV} {n0 k k' i : Nat} {l l2 : List MX} (h : touchX T (n0 + i) 1 l2 = []) : heldX T n0 (k, k', l, i, 1, l2) = true := by
  unfold heldX disj
  simp only [h]
  exact List.all_eq_true.2 fun j hj => rfl
theorem refEnc (c : Cat) (hc : FewC c) (hv : ValidP c) : ∃ v, calL EE 11 [.st c.row] [] = some (.ret v, []) ∧ ∃ s : Slc UInt8, v = .s (s.sv bRow) ∧ s.l = encCat c := by
  refine fn_ex f11 (by simp) ?_
  unfold c11
  have hnx := hv.next0
  have hnx1 := hv.next1
  have ht0 := hc.tabs
  have hv0 := hc.views
  simp only [go_sem, reduceIte, Nat.reduceEqDiff, Nat.reduceAdd, Nat.reduceLeDiff, Nat.reduceLT, Cat.row]
  generalize hob : HObj.box 25 _ = ob0
  have e0 : Enc 1 ((Ob.of []).set 0 ob0) 1 (.s (.slice [] true)) [] [(0, ob0)] := ⟨.inr (.inl ⟨rfl, nofun⟩), fun b hb => by rw [List.mem_singleton.1 hb]; exact ⟨by omega, .s, if_pos rfl⟩⟩
  have hu1 := uvE_len c.next.toNat
  have hu2 := uvE_len c.tabs.l.length
  refine WC_enc (m := uvE c.next.toNat) e0 rfl rfl rfl (rN _ hnx (by omega) _ (by simp)) (by omega) (by omega) ?_
  intro p1 H1 e1 _
  rw [List.nil_append] at e1
  have hA := (e1.box (0, ob0) (by simp)).2.2
  simp only at hA
  rw [← hob] at hA
  simp only [go_sem, reduceIte, Nat.reduceEqDiff, Nat.reduceAdd, Nat.reduceLeDiff, Nat.reduceLT, hA]
  refine WC_enc (m := uvE c.tabs.l.length) e1 rfl rfl rfl (rN _ (by omega) (by omega) _ (by omega)) (by omega) (by omega) ?_
  intro p2 H2 e2 _
  simp only [go_sem, reduceIte, Nat.reduceEqDiff, Nat.reduceAdd, Nat.reduceLeDiff, Nat.reduceLT]
  have kz : ∀ a b : SV, ∀ x ∈ [PV.s a, PV.s (.slice [] true), PV.s b], (0 : Nat) ∉ heads x := fun a b => noC no_s (noC no_s (noC no_s noN))
  refine ⟨allC (heldP' (id := 0) _ rfl rfl (by omega) (kz _ _)) (allC (heldP' (id := 0) _ rfl rfl (by omega) (kz _ _)) (allC (heldS rfl) rfl)), ?_⟩
  refine WP_scan rfl 4 c.tabs.l.length (fun _ => True) (fun j T H n => 10 ≤ n ∧ Enc 1 H n (T 3) (uvE c.next.toNat ++ uvE c.tabs.l.length ++ (c.tabs.l.take j).flatMap encTab) [(0, ob0)]) rfl ⟨by omega, ?_⟩ ?_ ?_
  · rw [List.take_zero, List.flatMap_nil, List.append_nil]
    exact e2.keep (by omega)
  · rintro j T' H' n' hlt hfT hi' ⟨hn', e3⟩ _
    have g1 : T' 1 = .ptr 0 0 := hfT 1 rfl
    clear hfT
    have hA3 := (e3.box (0, ob0) (by simp)).2.2
    simp only at hA3
    rw [← hob] at hA3
    have hft := hc.tab j hlt
    have hvt := hv.tab _ (getD_mem (l := c.tabs.l) default hlt)
    have hji : (j : Int) < c.tabs.l.length := by omega
    have hj0 : (0 : Int) ≤ j := by omega
    have htl := tabs_len hc j
    have hst := flat_step (f := encTab) hlt
    have hid : 0 ≤ (c.tabs.l.getD j default).id ∧ (c.tabs.l.getD j default).id ≤ 2147483647 := by
      have := hv.id_ (c.tabs.l.getD j default).id (by
        simp only [ids, List.mem_append, List.mem_flatMap, tids, List.mem_cons, List.mem_map]
        exact .inl ⟨_, getD_mem _ hlt, .inl rfl⟩)
      omega
    have hids : ∀ x ∈ (c.tabs.l.getD j default).idx.l, 0 ≤ x.id ∧ x.id ≤ 2147483647 := fun x hx => by
      have := hv.id_ x.id (by
        simp only [ids, List.mem_append, List.mem_flatMap, tids, List.mem_cons, List.mem_map]
        exact .inl ⟨_, getD_mem _ hlt, .inr ⟨x, hx, rfl⟩⟩)
      omega
    simp only [go_sem, reduceIte, Nat.reduceEqDiff, Nat.reduceAdd, Nat.reduceLeDiff, Nat.reduceLT, g1, hA3, hi', hji, decide_true, ia_tab, hj0, and_self, Tab.row]
    generalize c.tabs.l.getD j default = t at hft hvt hst hid hids
    rw [hst]
    generalize hpre : uvE c.next.toNat ++ uvE c.tabs.l.length ++ (c.tabs.l.take j).flatMap encTab = pre at e3
    have hprel : pre.length ≤ 785960020 := by rw [← hpre]; simp only [List.length_append]; omega
    rw [← List.append_assoc, hpre]
    clear hpre hst
    refine ⟨hlt, ?_⟩
    generalize hobt : HObj.box 47 _ = obt
    have f0 : Enc 1 (H'.set (n' + 5 + 5) obt) (n' + 5 + 5 + 1) (T' 3) pre [(n' + 5 + 5, obt), (0, ob0)] := (e3.keep (n' := n' + 5 + 5) (by omega)).add (by omega)
    have u1 := uvE_len t.id.toNat
    have u2 := encS_len t.name
    have u3 := uvE_len t.cols.l.length
    have hnm := hft.name
    have hcl := hft.cols
    have hil := hft.idx
    have hkl := hft.key
    refine WC_enc (m := uvE t.id.toNat) f0 rfl rfl rfl (rN _ hid.1 (by omega) _ (by omega)) (by omega) (by omega) ?_
    intro p3 H3 f1 q1
    have hB1 := (f1.box (n' + 5 + 5, obt) (by simp)).2.2
    simp only at hB1
    rw [← hobt] at hB1
    simp only [go_sem, reduceIte, Nat.reduceEqDiff, Nat.reduceAdd, Nat.reduceLeDiff, Nat.reduceLT, hB1]
    refine WC_enc (m := encS t.name) f1 rfl rfl rfl (rS _ (by omega) _ (by simp only [List.length_append]; omega)) (by omega) (by omega) ?_
    intro p4 H4 f2 q2
    have hB2 := (f2.box (n' + 5 + 5, obt) (by simp)).2.2
    simp only at hB2
    rw [← hobt] at hB2
    simp only [go_sem, reduceIte, Nat.reduceEqDiff, Nat.reduceAdd, Nat.reduceLeDiff, Nat.reduceLT, hB2]
    refine WC_enc (m := uvE t.cols.l.length) f2 rfl rfl rfl (rN _ (by omega) (by omega) _ (by simp only [List.length_append]; omega)) (by omega) (by omega) ?_
    intro p5 H5 f3 q3
    simp only [go_sem, reduceIte, Nat.reduceEqDiff, Nat.reduceAdd, Nat.reduceLeDiff, Nat.reduceLT]
    have kn0 : ∀ a b : SV, ∀ x ∈ [PV.s a, T' 3, PV.s b], n' + 5 + 5 ∉ heads x := fun a b => noC no_s (noC (f0.no (b := (n' + 5 + 5, obt)) (by simp)) (noC no_s noN))
    have kn1 : ∀ a b : SV, ∀ x ∈ [PV.s a, p3, PV.s b], n' + 5 + 5 ∉ heads x := fun a b => noC no_s (noC (f1.no (b := (n' + 5 + 5, obt)) (by simp)) (noC no_s noN))
    refine ⟨allC (heldP' (id := n' + 5 + 5) _ rfl rfl (by omega) (kn0 _ _)) (allC (heldP' (id := n' + 5 + 5) _ rfl rfl (by omega) (kn0 _ _)) (allC (heldP' (id := n' + 5 + 5) _ rfl rfl (by omega) (kn0 _ _)) (allC (heldP' (id := n' + 5 + 5) _ rfl rfl (by omega) (kn1 _ _))
      (allC (heldP' (id := n' + 5 + 5) _ rfl rfl (by omega) (kn0 _ _)) (allC (heldP' (id := n' + 5 + 5) _ rfl rfl (by omega) (kn1 _ _)) (allC (heldS rfl) (allC (heldS rfl) rfl))))))), ?_⟩
    have hlen3 : (pre ++ uvE t.id.toNat ++ encS t.name ++ uvE t.cols.l.length).length ≤ 785960500 := by
      simp only [List.length_append]
      omega
    generalize hpr3 : pre ++ uvE t.id.toNat ++ encS t.name ++ uvE t.cols.l.length = pre3 at f3 hlen3
    refine WP_scan rfl 6 t.cols.l.length (fun _ => True) (fun i T H n => n' + 11 ≤ n ∧ Enc 1 H n (T 3) (pre3 ++ (t.cols.l.take i).flatMap encCol) [(n' + 5 + 5, obt), (0, ob0)]) rfl ⟨by omega, ?_⟩ ?_ ?_
    · rw [List.take_zero, List.flatMap_nil, List.append_nil]
      exact f3.keep (by omega)
    · rintro i T7 H7 n7 hlti hfT7 hi7 ⟨hn7, k3⟩ _
      have r5 : T7 5 = .ptr (n' + 5 + 5) 0 := hfT7 5 rfl
      clear hfT7
      have hfc := hft.col i hlti
      have hvc := hvt.cols.col _ hlti
      have hji : (i : Int) < t.cols.l.length := by omega
      have hj0 : (0 : Int) ≤ i := by omega
      have hcl3 := cols_len hft i
      have hB7 := (k3.box (n' + 5 + 5, obt) (by simp)).2.2
      simp only at hB7
      rw [← hobt] at hB7
      rw [flat_step (f := encCol) hlti]
      simp only [go_sem, reduceIte, Nat.reduceEqDiff, Nat.reduceAdd, Nat.reduceLeDiff, Nat.reduceLT, r5, hB7, hi7, hji, decide_true, ia_col, hj0, and_self, Col.row]
      generalize hx : t.cols.l.getD i default = x at hfc hvc
      have c1 := encS_len x.name
      have c2 := uvE_len x.ty.toNat
      have hty := hvc.2
      refine ⟨hlti, WC_enc (m := encS x.name) (k3.keep (n' := n7 + 12) (by omega)) rfl rfl rfl (rS _ (by omega) _ (by simp only [List.length_append]; omega)) (by omega) (by omega) ?_⟩
      intro p6 H6 k5 _
      have hB6 := (k5.box (n' + 5 + 5, obt) (by simp)).2.2
      simp only at hB6
      rw [← hobt] at hB6
      simp only [go_sem, reduceIte, Nat.reduceEqDiff, Nat.reduceAdd, Nat.reduceLeDiff, Nat.reduceLT, r5, hB6, hi7, hji, decide_true, ia_col, hj0, and_self, Col.row, hx]
      refine ⟨hlti, WC_enc (m := uvE x.ty.toNat) k5 rfl rfl rfl (rN _ hty.1 (by omega) _ (by simp only [List.length_append]; omega)) (by omega) (by omega) ?_⟩
      intro p7 H7' k6 _
      simp only [go_sem, reduceIte, Nat.reduceEqDiff, Nat.reduceAdd, Nat.reduceLeDiff, Nat.reduceLT, hi7, wrap_succ (show i < 4611686018427387904 by omega)]
      have kn : ∀ a b : SV, ∀ x ∈ [PV.s a, T7 3, PV.s b], n' + 5 + 5 ∉ heads x := fun a b => noC no_s (noC (k3.no (b := (n' + 5 + 5, obt)) (by simp)) (noC no_s noN))
      refine ⟨allC (heldP' (id := n' + 5 + 5) _ rfl r5 (by omega) (kn _ _)) (allC (heldP' (id := n' + 5 + 5) _ rfl rfl (by omega) (kn _ _)) (allC (heldN rfl) (allC (heldN rfl) (allC (heldN rfl) rfl)))), by omega, ?_⟩
      have := k6.keep (n' := n7 + 19 + 1 + 1 + 3) (by omega)
      rw [show encCol x = encS x.name ++ uvE x.ty.toNat from rfl]
      simp only [List.append_assoc] at this ⊢
      exact this
    · rintro T7 H7 n7 hfT7 hi7 ⟨hn7, k3⟩ _
      have r5 : T7 5 = .ptr (n' + 5 + 5) 0 := hfT7 5 rfl
      have r1 : T7 1 = T' 1 := hfT7 1 rfl
      have r4 : T7 4 = T' 4 := hfT7 4 rfl
      clear hfT7
      rw [List.take_length] at k3
      have hD1 := (k3.box (n' + 5 + 5, obt) (by simp)).2.2
      simp only at hD1
      rw [← hobt] at hD1
      simp only [go_sem, reduceIte, Nat.reduceEqDiff, Nat.reduceAdd, Nat.reduceLeDiff, Nat.reduceLT, r5, hD1, hi7, Int.lt_irrefl, decide_false]
      have hcl3 := cols_len hft t.cols.l.length
      rw [List.take_length] at hcl3
      refine WC_enc (m := encI t.key.l) (k3.keep (n' := n7 + 5 + 3) (by omega)) rfl rfl rfl (rI t.key (by omega) (fun i hi => ?_) _ (by simp only [List.length_append]; omega)) (by omega) (by omega) ?_
      · obtain ⟨q, hq, rfl⟩ := getD_idx hi
        have := hvt.key.at_ q hq
        omega
      intro p8 H8 k8 _
      have hD2 := (k8.box (n' + 5 + 5, obt) (by simp)).2.2
      simp only at hD2
      rw [← hobt] at hD2
      have u4 := uvE_len t.idx.l.length
      have u5 := encI_len t.key.l
      simp only [go_sem, reduceIte, Nat.reduceEqDiff, Nat.reduceAdd, Nat.reduceLeDiff, Nat.reduceLT, r5, hD2]
      refine WC_enc (m := uvE t.idx.l.length) k8 rfl rfl rfl (rN _ (by omega) (by omega) _ (by simp only [List.length_append]; omega)) (by omega) (by omega) ?_
      intro p9 H9 k9 _
      simp only [go_sem, reduceIte, Nat.reduceEqDiff, Nat.reduceAdd, Nat.reduceLeDiff, Nat.reduceLT]
      have kn : ∀ a b : SV, ∀ x ∈ [PV.s a, T7 3, PV.s b], n' + 5 + 5 ∉ heads x := fun a b => noC no_s (noC (k3.no (b := (n' + 5 + 5, obt)) (by simp)) (noC no_s noN))
      refine ⟨allC (heldP' (id := n' + 5 + 5) _ rfl r5 (by omega) (kn _ _)) (allC (heldP' (id := n' + 5 + 5) _ rfl rfl (by omega) (kn _ _)) (allC (heldS rfl) rfl)), ?_⟩
      have hlen9 : (pre3 ++ t.cols.l.flatMap encCol ++ encI t.key.l ++ uvE t.idx.l.length).length ≤ 785960500 + 168821 + 4020 + 10 := by
        simp only [List.length_append]
        omega
      generalize hpr9 : pre3 ++ t.cols.l.flatMap encCol ++ encI t.key.l ++ uvE t.idx.l.length = pre9 at k9 hlen9
      refine WP_scan rfl 7 t.idx.l.length (fun _ => True) (fun i T H n => n7 + 13 ≤ n ∧ Enc 1 H n (T 3) (pre9 ++ (t.idx.l.take i).flatMap encIdx) [(n' + 5 + 5, obt), (0, ob0)]) rfl ⟨by omega, ?_⟩ ?_ ?_
      · rw [List.take_zero, List.flatMap_nil, List.append_nil]
        exact k9.keep (by omega)
      · rintro i T8 H10 n8 hlti hfT8 hi8 ⟨hn8, m3⟩ _
        have s5 : T8 5 = .ptr (n' + 5 + 5) 0 := (hfT8 5 rfl).trans r5
        clear hfT8
        have hfx := hft.ix i hlti
        have hvx := hvt.ix _ hlti
        have hji : (i : Int) < t.idx.l.length := by omega
        have hj0 : (0 : Int) ≤ i := by omega
        have hil3 := idxs_len hft i
        have hB8 := (m3.box (n' + 5 + 5, obt) (by simp)).2.2
        simp only at hB8
        rw [← hobt] at hB8
        rw [flat_step (f := encIdx) hlti]
        simp only [go_sem, reduceIte, Nat.reduceEqDiff, Nat.reduceAdd, Nat.reduceLeDiff, Nat.reduceLT, s5, hB8, hi8, hji, decide_true, ia_idx, hj0, and_self, Idx.row]
        have hxid := hids _ (getD_mem (l := t.idx.l) default hlti)
        generalize t.idx.l.getD i default = x at hfx hvx hxid
        refine ⟨hlti, ?_⟩
        generalize hobx : HObj.box 51 _ = obx
        have m4 := (m3.keep (n' := n8 + 5 + 5) (by omega)).add (ob := obx) (Nat.le_refl _)
        have c1 := encS_len x.name
        have c2 := uvE_len x.id.toNat
        have fx1 := hfx.1
        have fx2 := hfx.2
        refine WC_enc (m := uvE x.id.toNat) m4 rfl rfl rfl (rN _ hxid.1 (by omega) _ (by simp only [List.length_append]; omega)) (by omega) (by omega) ?_
        intro q6 X6 m5 _
        have hC1 := (m5.box (n8 + 5 + 5, obx) (by simp)).2.2
        simp only at hC1
        rw [← hobx] at hC1
        simp only [go_sem, reduceIte, Nat.reduceEqDiff, Nat.reduceAdd, Nat.reduceLeDiff, Nat.reduceLT, hC1]
        refine WC_enc (m := encS x.name) m5 rfl rfl rfl (rS _ (by omega) _ (by simp only [List.length_append]; omega)) (by omega) (by omega) ?_
        intro q7 X7 m6 _
        have hC2 := (m6.box (n8 + 5 + 5, obx) (by simp)).2.2
        simp only at hC2
        rw [← hobx] at hC2
        simp only [go_sem, reduceIte, Nat.reduceEqDiff, Nat.reduceAdd, Nat.reduceLeDiff, Nat.reduceLT, hC2]
        refine WC_enc (m := encI x.cols.l) m6 rfl rfl rfl (rI x.cols (by omega) (fun a ha => ?_) _ (by simp only [List.length_append]; omega)) (by omega) (by omega) ?_
        · obtain ⟨q, hq, rfl⟩ := getD_idx ha
          have := hvx.idxs.at_ q hq
          omega
        intro q8 X8 m7 _
        simp only [go_sem, reduceIte, Nat.reduceEqDiff, Nat.reduceAdd, Nat.reduceLeDiff, Nat.reduceLT, hi8, wrap_succ (show i < 4611686018427387904 by omega)]
        have kn4 : ∀ a b : SV, ∀ x ∈ [PV.s a, T8 3, PV.s b], n8 + 5 + 5 ∉ heads x := fun a b => noC no_s (noC (m4.no (b := (n8 + 5 + 5, obx)) (by simp)) (noC no_s noN))
        have kn5 : ∀ a b : SV, ∀ x ∈ [PV.s a, q6, PV.s b], n8 + 5 + 5 ∉ heads x := fun a b => noC no_s (noC (m5.no (b := (n8 + 5 + 5, obx)) (by simp)) (noC no_s noN))
        refine ⟨allC (heldP' (id := n8 + 5 + 5) _ rfl rfl (by omega) (kn4 _ _)) (allC (heldP' (id := n8 + 5 + 5) _ rfl rfl (by omega) (kn4 _ _)) (allC (heldP' (id := n8 + 5 + 5) _ rfl rfl (by omega) (kn4 _ _)) (allC (heldP' (id := n8 + 5 + 5) _ rfl rfl (by omega) (kn5 _ _))
          (allC (heldP' (id := n8 + 5 + 5) _ rfl rfl (by omega) (kn4 _ _)) (allC (heldP' (id := n8 + 5 + 5) _ rfl rfl (by omega) (kn5 _ _)) rfl))))), by omega, ?_⟩
        have := m7.less (B' := [(n' + 5 + 5, obt), (0, ob0)]) (by simp)
        rw [show encIdx x = uvE x.id.toNat ++ encS x.name ++ encI x.cols.l from rfl]
        simp only [List.append_assoc] at this ⊢
        exact this.keep (by omega)
      · rintro T8 H10 n8 hfT8 hi8 ⟨hn8, m3⟩ _
        have s5 : T8 5 = .ptr (n' + 5 + 5) 0 := (hfT8 5 rfl).trans r5
        have s4 : T8 4 = T7 4 := hfT8 4 rfl
        clear hfT8
        rw [List.take_length] at m3
        have hB8 := (m3.box (n' + 5 + 5, obt) (by simp)).2.2
        simp only at hB8
        rw [← hobt] at hB8
        have u30 : T8 4 = .i64 j := by rw [s4, r4, hi']
        simp only [go_sem, reduceIte, Nat.reduceEqDiff, Nat.reduceAdd, Nat.reduceLeDiff, Nat.reduceLT, s5, hB8, hi8, Int.lt_irrefl, decide_false, u30, wrap_succ (show j < 4611686018427387904 by omega)]
        refine ⟨by omega, ?_⟩
        have := m3.less (B' := [(0, ob0)]) (by simp)
        rw [show encTab t = uvE t.id.toNat ++ encS t.name ++ uvE t.cols.l.length ++ t.cols.l.flatMap encCol ++ encI t.key.l ++ uvE t.idx.l.length ++ t.idx.l.flatMap encIdx from rfl]
        rw [← hpr9, ← hpr3] at this
        simp only [List.append_assoc] at this ⊢
        exact this.keep (by omega)
  · rintro T' H' n' hfT hi' ⟨hn', e3⟩ _
    have g1 : T' 1 = .ptr 0 0 := hfT 1 rfl
    clear hfT
    rw [List.take_length] at e3
    have hA3 := (e3.box (0, ob0) (by simp)).2.2
    simp only at hA3
    rw [← hob] at hA3
    simp only [go_sem, reduceIte, Nat.reduceEqDiff, Nat.reduceAdd, Nat.reduceLeDiff, Nat.reduceLT, hi', Int.lt_irrefl, decide_false, g1, hA3]
    have htl := tabs_len hc c.tabs.l.length
    rw [List.take_length] at htl
    have hlt3 : (uvE c.next.toNat ++ uvE c.tabs.l.length ++ c.tabs.l.flatMap encTab).length ≤ 785960020 := by
      simp only [List.length_append]; omega
    generalize hpr : uvE c.next.toNat ++ uvE c.tabs.l.length ++ c.tabs.l.flatMap encTab = pre at e3 hlt3
    have hu3 := uvE_len c.views.l.length
    refine WC_enc (m := uvE c.views.l.length) (e3.keep (n' := n' + 9) (by omega)) rfl rfl rfl (rN _ (by omega) (by omega) _ (by omega)) (by omega) (by omega) ?_
    intro p3 H3 e4 _
    simp only [go_sem, reduceIte, Nat.reduceEqDiff, Nat.reduceAdd, Nat.reduceLeDiff, Nat.reduceLT]
    have hl4 : (pre ++ uvE c.views.l.length).length ≤ 785960030 := by
      simp only [List.length_append]; omega
    generalize hpr4 : pre ++ uvE c.views.l.length = pre4 at e4 hl4
    refine WP_scan rfl 9 c.views.l.length (fun _ => True) (fun i T H n => n' + 7 ≤ n ∧ Enc 1 H n (T 3) (pre4 ++ (c.views.l.take i).flatMap encViw) [(0, ob0)]) rfl ⟨by omega, ?_⟩ ?_ ?_
    · rw [List.take_zero, List.flatMap_nil, List.append_nil]
      exact e4.keep (by omega)
    · rintro i T7 H7 n7 hlti hfT7 hi7 ⟨hn7, k3⟩ _
      have r1 : T7 1 = .ptr 0 0 := (hfT7 1 rfl).trans g1
      clear hfT7
      have hfv := hc.view i hlti
      have hji : (i : Int) < c.views.l.length := by omega
      have hj0 : (0 : Int) ≤ i := by omega
      have hvl := views_len hc i
      have hA7 := (k3.box (0, ob0) (by simp)).2.2
      simp only at hA7
      rw [← hob] at hA7
      rw [flat_step (f := encViw) hlti]
      simp only [go_sem, reduceIte, Nat.reduceEqDiff, Nat.reduceAdd, Nat.reduceLeDiff, Nat.reduceLT, r1, hA7, hi7, hji, decide_true, ia_viw, hj0, and_self, Viw.row]
      have hvid : 0 ≤ (c.views.l.getD i default).id ∧ (c.views.l.getD i default).id ≤ 2147483647 := by
        have := hv.id_ (c.views.l.getD i default).id (by
          simp only [ids, List.mem_append, List.mem_map]
          exact .inr ⟨_, getD_mem _ hlti, rfl⟩)
        omega
      generalize c.views.l.getD i default = x at hfv hvid
      refine ⟨hlti, ?_⟩
      generalize hobv : HObj.box 53 _ = obv
      have k4 := (k3.keep (n' := n7 + 5 + 5) (by omega)).add (ob := obv) (Nat.le_refl _)
      have fx1 := hfv.1
      have fx2 := hfv.2
      have c1 := encS_len x.name
      have c2 := encS_len x.text
      have c3 := uvE_len x.id.toNat
      refine WC_enc (m := uvE x.id.toNat) k4 rfl rfl rfl (rN _ hvid.1 (by omega) _ (by simp only [List.length_append]; omega)) (by omega) (by omega) ?_
      intro q6 X6 m5 _
      have hC1 := (m5.box (n7 + 5 + 5, obv) (by simp)).2.2
      simp only at hC1
      rw [← hobv] at hC1
      simp only [go_sem, reduceIte, Nat.reduceEqDiff, Nat.reduceAdd, Nat.reduceLeDiff, Nat.reduceLT, hC1]
      refine WC_enc (m := encS x.name) m5 rfl rfl rfl (rS _ (by omega) _ (by simp only [List.length_append]; omega)) (by omega) (by omega) ?_
      intro q7 X7 m6 _
      have hC2 := (m6.box (n7 + 5 + 5, obv) (by simp)).2.2
      simp only at hC2
      rw [← hobv] at hC2
      simp only [go_sem, reduceIte, Nat.reduceEqDiff, Nat.reduceAdd, Nat.reduceLeDiff, Nat.reduceLT, hC2]
      refine WC_enc (m := encS x.text) m6 rfl rfl rfl (rS _ (by omega) _ (by simp only [List.length_append]; omega)) (by omega) (by omega) ?_
      intro q8 X8 m7 _
      have hC3 := (m7.box (n7 + 5 + 5, obv) (by simp)).2.2
      simp only at hC3
      rw [← hobv] at hC3
      simp only [go_sem, reduceIte, Nat.reduceEqDiff, Nat.reduceAdd, Nat.reduceLeDiff, Nat.reduceLT, hC3]
      have kn : ∀ a b : SV, ∀ x ∈ [PV.s a, T7 3, PV.s b], n7 + 5 + 5 ∉ heads x := fun a b => noC no_s (noC (k4.no (b := (n7 + 5 + 5, obv)) (by simp)) (noC no_s noN))
      have kn5 : ∀ a b : SV, ∀ x ∈ [PV.s a, q6, PV.s b], n7 + 5 + 5 ∉ heads x := fun a b => noC no_s (noC (m5.no (b := (n7 + 5 + 5, obv)) (by simp)) (noC no_s noN))
      refine ⟨allC (heldP' (id := n7 + 5 + 5) _ rfl rfl (by omega) (kn _ _)) (allC (heldP' (id := n7 + 5 + 5) _ rfl rfl (by omega) (kn _ _)) (allC (heldP' (id := n7 + 5 + 5) _ rfl rfl (by omega) (kn _ _)) (allC (heldP' (id := n7 + 5 + 5) _ rfl rfl (by omega) (kn5 _ _))
        (allC (heldP' (id := n7 + 5 + 5) _ rfl rfl (by omega) (kn _ _)) (allC (heldP' (id := n7 + 5 + 5) _ rfl rfl (by omega) (kn5 _ _)) rfl))))), ?_⟩
      have hl8 : ((pre4 ++ (c.views.l.take i).flatMap encViw) ++ uvE x.id.toNat ++ encS x.name ++ encS x.text).length ≤ 900000000 := by
        simp only [List.length_append]
        omega
      split
      · rename_i hm
        refine WC_enc (m := uvE 1) (m7.keep (n' := _) (by omega)) rfl rfl rfl (rN 1 (by omega) (by omega) _ (by omega)) (Nat.le_refl _) (by omega) ?_
        intro q9 X9 m8 _
        simp only [go_sem, reduceIte, Nat.reduceEqDiff, Nat.reduceAdd, Nat.reduceLeDiff, Nat.reduceLT, hi7, wrap_succ (show i < 4611686018427387904 by omega)]
        refine ⟨by omega, ?_⟩
        have := m8.less (B' := [(0, ob0)]) (by simp)
        rw [show encViw x = uvE x.id.toNat ++ encS x.name ++ encS x.text ++ uvE 1 from by rw [encViw, if_pos hm]]
        simp only [List.append_assoc] at this ⊢
        exact this.keep (by omega)
      · rename_i hm
        refine WC_enc (m := uvE 0) (m7.keep (n' := _) (by omega)) rfl rfl rfl (rN 0 (by omega) (by omega) _ (by omega)) (Nat.le_refl _) (by omega) ?_
        intro q9 X9 m8 _
        simp only [go_sem, reduceIte, Nat.reduceEqDiff, Nat.reduceAdd, Nat.reduceLeDiff, Nat.reduceLT, hi7, wrap_succ (show i < 4611686018427387904 by omega)]
        refine ⟨by omega, ?_⟩
        have := m8.less (B' := [(0, ob0)]) (by simp)
        rw [show encViw x = uvE x.id.toNat ++ encS x.name ++ encS x.text ++ uvE 0 from by rw [encViw, if_neg hm]]
        simp only [List.append_assoc] at this ⊢
        exact this.keep (by omega)
    · rintro T7 H7 n7 hfT7 hi7 ⟨hn7, k3⟩ _
      have r1 : T7 1 = .ptr 0 0 := (hfT7 1 rfl).trans g1
      clear hfT7
      rw [List.take_length] at k3
      have hA7 := (k3.box (0, ob0) (by simp)).2.2
      simp only at hA7
      rw [← hob] at hA7
      simp only [go_sem, reduceIte, Nat.reduceEqDiff, Nat.reduceAdd, Nat.reduceLeDiff, Nat.reduceLT, r1, hA7, hi7, Int.lt_irrefl, decide_false]
      obtain ⟨s, hs, hl⟩ := k3.own.back
      simp only [hs, bnd_some, WX_some]
      refine ⟨s, rfl, ?_⟩
      rw [hl, ← hpr4, ← hpr]
      rfl
end Go.Vm
