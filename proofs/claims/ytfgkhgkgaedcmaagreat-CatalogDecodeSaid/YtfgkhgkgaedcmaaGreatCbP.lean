/- A catalog's encoding; the program's Encode. -/
import Derived.Test.YtfgkhgkgaedcmaaGreatCbO
set_option linter.unusedVariables false
set_option linter.unusedSimpArgs false
set_option maxRecDepth 100000
namespace Go.Vm

def encCol (x : Col) : List UInt8 := encS x.name ++ uvE x.ty.toNat
def encIdx (x : Idx) : List UInt8 := uvE x.id.toNat ++ encS x.name ++ encI x.cols.l
def encTab (t : Tab) : List UInt8 := uvE t.id.toNat ++ encS t.name ++ uvE t.cols.l.length ++ t.cols.l.flatMap encCol ++ encI t.key.l ++ uvE t.idx.l.length ++ t.idx.l.flatMap encIdx
def encViw (v : Viw) : List UInt8 := uvE v.id.toNat ++ encS v.name ++ encS v.text ++ uvE (if v.mat = true then 1 else 0)
def encCat (c : Cat) : List UInt8 := uvE c.next.toNat ++ uvE c.tabs.l.length ++ c.tabs.l.flatMap encTab ++ uvE c.views.l.length ++ c.views.l.flatMap encViw
theorem encS_len (s : List UInt8) : (encS s).length ≤ s.length + 10 := by
  unfold encS
  rw [List.length_append]
  have := uvE_len s.length
  omega
theorem encCol_len {x : Col} (h : x.name.length ≤ 401) : (encCol x).length ≤ 421 := by
  unfold encCol
  rw [List.length_append]
  have := encS_len x.name
  have := uvE_len x.ty.toNat
  omega
theorem encIdx_len {x : Idx} (h : FewX x) : (encIdx x).length ≤ 4451 := by
  unfold encIdx
  rw [List.length_append, List.length_append]
  have := encS_len x.name
  have := uvE_len x.id.toNat
  have := encI_len x.cols.l
  have := h.1
  have := h.2
  omega
theorem mem_getD {α : Type} [Inhabited α] {l : List α} {p : α → Prop} (h : ∀ j, j < l.length → p (l.getD j default)) : ∀ x ∈ l, p x := fun x hx => by
  obtain ⟨j, hj, rfl⟩ := getD_idx hx
  exact h j hj
theorem cols_len {t : Tab} (h : FewT t) (j : Nat) : ((t.cols.l.take j).flatMap encCol).length ≤ 168821 := by
  have h1 := flat_len (f := encCol) (K := 421) (l := t.cols.l.take j) fun x hx => encCol_len (mem_getD (p := fun x => x.name.length ≤ 401) h.col x (List.mem_of_mem_take hx))
  rw [List.length_take] at h1
  have := h.cols
  have : min j t.cols.l.length ≤ 401 := by omega
  omega
theorem idxs_len {t : Tab} (h : FewT t) (j : Nat) : ((t.idx.l.take j).flatMap encIdx).length ≤ 1784851 := by
  have h1 := flat_len (f := encIdx) (K := 4451) (l := t.idx.l.take j) fun x hx => encIdx_len (mem_getD (p := FewX) h.ix x (List.mem_of_mem_take hx))
  rw [List.length_take] at h1
  have := h.idx
  have : min j t.idx.l.length ≤ 401 := by omega
  omega
theorem encTab_len {t : Tab} (h : FewT t) : (encTab t).length ≤ 1960000 := by
  unfold encTab
  simp only [List.length_append]
  have := encS_len t.name
  have := uvE_len t.id.toNat
  have := uvE_len t.cols.l.length
  have := uvE_len t.idx.l.length
  have := encI_len t.key.l
  have h1 := cols_len h t.cols.l.length
  have h2 := idxs_len h t.idx.l.length
  rw [List.take_length] at h1 h2
  have := h.name
  have := h.key
  omega
theorem encViw_len {v : Viw} (h : v.name.length ≤ 401 ∧ v.text.length ≤ 20000) : (encViw v).length ≤ 20500 := by
  unfold encViw
  simp only [List.length_append]
  have := encS_len v.name
  have := encS_len v.text
  have := uvE_len v.id.toNat
  have := uvE_len (if v.mat = true then 1 else 0)
  omega
theorem tabs_len {c : Cat} (h : FewC c) (j : Nat) : ((c.tabs.l.take j).flatMap encTab).length ≤ 785960000 := by
  have h1 := flat_len (f := encTab) (K := 1960000) (l := c.tabs.l.take j) fun x hx => encTab_len (mem_getD (p := FewT) h.tab x (List.mem_of_mem_take hx))
  rw [List.length_take] at h1
  have := h.tabs
  have : min j c.tabs.l.length ≤ 401 := by omega
  omega
theorem views_len {c : Cat} (h : FewC c) (j : Nat) : ((c.views.l.take j).flatMap encViw).length ≤ 8220500 := by
  have h1 := flat_len (f := encViw) (K := 20500) (l := c.views.l.take j) fun x hx => encViw_len (mem_getD (p := fun v : Viw => v.name.length ≤ 401 ∧ v.text.length ≤ 20000) h.view x (List.mem_of_mem_take hx))
  rw [List.length_take] at h1
  have := h.views
  have : min j c.views.l.length ≤ 401 := by omega
  omega
/-- An encoding under way: its own slice, and the boxes beside it. -/
structure Enc (lo : Nat) (H : Ob) (n : Nat) (p : PV) (l : List UInt8) (B : List (Nat × HObj)) : Prop where
  own : Own lo 5 1 H n p (l.map bRow)
  box : ∀ b ∈ B, b.1 < n ∧ Off p b.1 ∧ H b.1 = b.2
theorem Enc.keep {lo H n n' p l B} (h : Enc lo H n p l B) (hn : n ≤ n') : Enc lo H n' p l B := ⟨h.own.keep hn (fun _ _ _ _ => rfl), fun b hb => ⟨by have := (h.box b hb).1; omega, (h.box b hb).2⟩⟩
theorem Enc.add {lo H n p l B id ob} (h : Enc lo H n p l B) (hn : n ≤ id) : Enc lo (H.set id ob) (id + 1) p l ((id, ob) :: B) := by
  refine ⟨h.own.kept (by omega) fun j _ hj => if_neg (by omega), fun b hb => ?_⟩
  rcases List.mem_cons.1 hb with rfl | hb
  · exact ⟨Nat.lt_succ_self _, h.own.off (.inr hn), if_pos rfl⟩
  · obtain ⟨b1, b2, b3⟩ := h.box b hb
    exact ⟨by omega, b2, (if_neg (by omega)).trans b3⟩
theorem Enc.less {lo H n p l B B'} (h : Enc lo H n p l B) (hb : ∀ b ∈ B', b ∈ B) : Enc lo H n p l B' := ⟨h.own, fun b k => h.box b (hb b k)⟩
theorem WC_enc {cp dr : Bool} {g : FuncId} {lo : Nat} {H : Ob} {n0 nid : Nat} {p : PV} {x : List PV} {l m : List UInt8} {B d T r Q} (h : Enc lo H n0 p l B) (hr : EE.ref g = false) (hlf : EE.loc g = true) (hp : pureA x = true) (hc : AppC cp EE g 5 1 x (l.map bRow) (l.map bRow ++ m.map bRow)) (hn : n0 ≤ nid) (hlo : lo ≤ nid)
    (hk : ∀ p1 H1, Enc lo H1 (nid + 1) p1 (l ++ m) B → (∀ j, j ≠ nid → Off p j → Off p1 j) → WS EE dr r (putT T d p1) H1 (nid + 1) Q) : WCs EE dr g (p :: x) H (nid + 1) d T r Q := by
  refine WC_app h.own hr hlf hp hc hn hlo fun p1 H1 h1 h2 h3 h4 => hk p1 H1 ⟨by rw [List.map_append]; exact h1, fun b hb => ?_⟩ h3
  obtain ⟨b1, b2, b3⟩ := h.box b hb
  exact ⟨by omega, h3 _ (by omega) b2, by rw [h2 _ (by omega) b2, b3]⟩
theorem Enc.no {lo H n p l B} (h : Enc lo H n p l B) {b : Nat × HObj} (hb : b ∈ B) : b.1 ∉ heads p := no_own h.own (h.box b hb).2.1
theorem allC {α : Type} {f : α → Bool} {a : α} {l : List α} (h : f a = true) (hl : l.all f = true) : (a :: l).all f = true := by rw [List.all_cons, h, hl]; rfl
theorem heldP' {T : Nat → PV} {n0 k i c id off : Nat} {l : List MX} (vs : List PV) (hl : l.map (valX T) = vs) (hc : T c = .ptr id off) (hne : n0 + k ≠ id) (hv : ∀ v ∈ vs, id ∉ heads v) : heldX T n0 (k, 2, l, i, 1, [.t c]) = true :=
  heldP hc hne fun x hx => hv _ (hl ▸ List.mem_map_of_mem hx)
theorem heldQ' {T : Nat → PV} {n0 k i c id off : Nat} {l : List MX} (vs : List PV) (hl : l.map (valX T) = vs) (hc : T c = .ptr id off) (hne : n0 + i ≠ id) (hv : ∀ v ∈ vs, id ∉ heads v) : heldX T n0 (k, 1, [.t c], i, 2, l) = true :=
  heldQ hc hne fun x hx => hv _ (hl ▸ List.mem_map_of_mem hx)
theorem heldR {T : Nat → PV} {n0 k i c : Nat} {l : List MX} {v : SV} (vs : List PV) (hl : l.map (valX T) = vs) (hc : T c = .s v) (hne : k ≠ i) (hv : ∀ v ∈ vs, n0 + i ∉ heads v) : heldX T n0 (k, 2, l, i, 2, [.t c]) = true := by
  have e2 : touchX T (n0 + i) 2 [.t c] = [n0 + i] := by simp [touchX, valX, hc, heads_s]
  unfold heldX disj
  simp only [e2]
  refine List.all_eq_true.2 fun j hj => ?_
  have : j ≠ n0 + i := by
    rintro rfl
    rcases List.mem_cons.1 hj with h | h
    · omega
    · obtain ⟨x, hx, h⟩ := List.mem_flatMap.1 h
      exact hv _ (hl ▸ List.mem_map_of_mem hx) h
  simp [this]
theorem Enc.new {lo H n p l B} (h : Enc lo H n p l B) {j : Nat} (hj : n ≤ j) : j ∉ heads p := no_own h.own (h.own.off (.inr hj))
theorem noC {id : Nat} {v : PV} {vs : List PV} (h : id ∉ heads v) (hv : ∀ x ∈ vs, id ∉ heads x) : ∀ x ∈ v :: vs, id ∉ heads x := fun x hx => by
  rcases List.mem_cons.1 hx with rfl | hx
  · exact h
  · exact hv x hx
theorem noN {id : Nat} : ∀ x ∈ ([] : List PV), id ∉ heads x := nofun
theorem mapl {l : List UInt8} {n : Nat} (h : l.length ≤ n) : (l.map bRow).length ≤ n := by rw [List.length_map]; exact h
theorem encNo (c : Cat) (hc : FewC c) (hv : ¬ ValidP c) : calL EE 7 [.st c.row] [] = some (.ret (.tuple [.s .nils, .i64 1]), []) := by
  refine fn_ok f7 (by simp) ?_
  unfold c7
  simp only [go_sem, reduceIte, Nat.reduceEqDiff, Nat.reduceAdd, Nat.reduceLeDiff, Nat.reduceLT, Cat.row]
  refine WC_p rfl rfl (t11 c hc) ?_
  simp only [go_sem, reduceIte, Nat.reduceEqDiff, Nat.reduceAdd, Nat.reduceLeDiff, Nat.reduceLT, tf_not hv]
theorem encOk (c : Cat) (hc : FewC c) (hv : ValidP c) : ∃ v, calL EE 7 [.st c.row] [] = some (.ret v, []) ∧ ∃ s : Slc UInt8, v = .tuple [.s (s.sv bRow), .i64 0] ∧ s.l = encCat c := by
  refine fn_ex f7 (by simp) ?_
  unfold c7
  simp only [go_sem, reduceIte, Nat.reduceEqDiff, Nat.reduceAdd, Nat.reduceLeDiff, Nat.reduceLT, Cat.row]
  refine WC_p rfl rfl (t11 c hc) ?_
  simp only [go_sem, reduceIte, Nat.reduceEqDiff, Nat.reduceAdd, Nat.reduceLeDiff, Nat.reduceLT, tf_of hv]
  have hw : ∀ n : Int, 0 ≤ n → n < 9223372036854775808 → IntKind.u64.wrap n = n := fun n h0 h1 => by
    show n % 18446744073709551616 = _
    omega
  have hnx := hv.next0
  have hnx1 := hv.next1
  have ht0 := hc.tabs
  have hv0 := hc.views
  rw [hw _ hnx (by omega)]
  generalize hob : HObj.box 25 _ = ob0
  have e0 : Enc 1 ((Ob.of []).set 0 ob0) 1 (.s .nils) [] [(0, ob0)] := ⟨.nil, fun b hb => by rw [List.mem_singleton.1 hb]; exact ⟨by omega, .s, if_pos rfl⟩⟩
  refine WC_enc (m := uvE c.next.toNat) e0 rfl rfl rfl (appUint _ hnx (by omega) _ (by simp)) (by omega) (by omega) ?_
  intro p1 H1 e1 _
  rw [List.nil_append] at e1
  have hA := (e1.box (0, ob0) (by simp)).2.2
  simp only at hA
  rw [← hob] at hA
  simp only [go_sem, reduceIte, Nat.reduceEqDiff, Nat.reduceAdd, Nat.reduceLeDiff, Nat.reduceLT, hA]
  rw [hw _ (by omega) (by omega)]
  have hu1 := uvE_len c.next.toNat
  have hu2 := uvE_len c.tabs.l.length
  refine WC_enc (m := uvE c.tabs.l.length) e1 rfl rfl rfl (appUint _ (by omega) (by omega) _ (mapl (by omega))) (by omega) (by omega) ?_
  intro p2 H2 e2 _
  have hA2 := (e2.box (0, ob0) (by simp)).2.2
  simp only at hA2
  rw [← hob] at hA2
  simp only [go_sem, reduceIte, Nat.reduceEqDiff, Nat.reduceAdd, Nat.reduceLeDiff, Nat.reduceLT, hA2]
  refine WP_scan rfl 30 c.tabs.l.length (fun _ => True) (fun j T H n => 17 ≤ n ∧ Enc 1 H n (T 4) (uvE c.next.toNat ++ uvE c.tabs.l.length ++ (c.tabs.l.take j).flatMap encTab) [(0, ob0)]) rfl ⟨by omega, ?_⟩ ?_ ?_
  · rw [List.take_zero, List.flatMap_nil, List.append_nil]
    exact e2.keep (by omega)
  · rintro j T' H' n' hlt hfT hi' ⟨hn', e3⟩ _
    have g1 : T' 1 = .ptr 0 0 := hfT 1 rfl
    have g28 : T' 28 = .s (c.tabs.sv Tab.row) := hfT 28 rfl
    have g29 : T' 29 = .i64 c.tabs.l.length := hfT 29 rfl
    clear hfT
    have hft := hc.tab j hlt
    have hvt := hv.tab _ (getD_mem (l := c.tabs.l) default hlt)
    have hji : (j : Int) < c.tabs.l.length := by omega
    have hj0 : (0 : Int) ≤ j := by omega
    have htl := tabs_len hc j
    have hst := flat_step (f := encTab) hlt
    have hid : 0 ≤ (c.tabs.l.getD j default).id ∧ (c.tabs.l.getD j default).id ≤ 2147483647 := by
      have := hv.id_ (c.tabs.l.getD j default).id (by
        simp only [ids, List.mem_append, List.mem_flatMap, tids, List.mem_cons, List.mem_map]
        exact .inl ⟨_, getD_mem _ hlt, .inl rfl⟩)
      omega
    simp only [go_sem, reduceIte, Nat.reduceEqDiff, Nat.reduceAdd, Nat.reduceLeDiff, Nat.reduceLT, g28, g29, hi', hji, decide_true, ia_tab, hj0, and_self, Tab.row]
    have hids : ∀ x ∈ (c.tabs.l.getD j default).idx.l, 0 ≤ x.id ∧ x.id ≤ 2147483647 := fun x hx => by
      have := hv.id_ x.id (by
        simp only [ids, List.mem_append, List.mem_flatMap, tids, List.mem_cons, List.mem_map]
        exact .inl ⟨_, getD_mem _ hlt, .inr ⟨x, hx, rfl⟩⟩)
      omega
    generalize c.tabs.l.getD j default = t at hft hvt hst hid hids
    rw [hst]
    have hE : ∀ {A : List UInt8}, A.length ≤ 785960020 → True := fun _ => trivial
    generalize hpre : uvE c.next.toNat ++ uvE c.tabs.l.length ++ (c.tabs.l.take j).flatMap encTab = pre at e3
    have hprel : pre.length ≤ 785960020 := by rw [← hpre]; simp only [List.length_append]; omega
    rw [← List.append_assoc, hpre]
    clear hpre hst hE
    refine ⟨hlt, ?_⟩
    generalize hobt : HObj.box 47 _ = obt
    have f0 : Enc 1 (H'.set (n' + 1 + 2) obt) (n' + 1 + 2 + 1) (T' 4) pre [(n' + 1 + 2, obt), (0, ob0)] := (e3.keep (n' := n' + 1 + 2) (by omega)).add (by omega)
    rw [hw _ hid.1 (by omega)]
    have u1 := uvE_len t.id.toNat
    have u2 := encS_len t.name
    have hnm := hft.name
    refine WC_enc (m := uvE t.id.toNat) f0 rfl rfl rfl (appUint _ hid.1 (by omega) _ (mapl (by omega))) (by omega) (by omega) ?_
    intro p3 H3 f1 q1
    have hB1 := (f1.box (n' + 1 + 2, obt) (by simp)).2.2
    simp only at hB1
    rw [← hobt] at hB1
    simp only [go_sem, reduceIte, Nat.reduceEqDiff, Nat.reduceAdd, Nat.reduceLeDiff, Nat.reduceLT, hB1]
    refine WC_enc (m := encS t.name) f1 rfl rfl rfl (appStr _ (by omega) _ (mapl (by simp only [List.length_append]; omega))) (by omega) (by omega) ?_
    intro p4 H4 f2 q2
    have hB2 := (f2.box (n' + 1 + 2, obt) (by simp)).2.2
    simp only at hB2
    rw [← hobt] at hB2
    simp only [go_sem, reduceIte, Nat.reduceEqDiff, Nat.reduceAdd, Nat.reduceLeDiff, Nat.reduceLT, hB2]
    refine ⟨allC (heldP' (id := n' + 1 + 2) _ rfl rfl (by omega) (noC no_s noN)) (allC (heldP' (id := n' + 1 + 2) _ rfl rfl (by omega) (noC no_s (noC (f0.no (b := (n' + 1 + 2, obt)) (by simp)) (noC no_s noN)))) (allC (heldP' (id := n' + 1 + 2) _ rfl rfl (by omega) (noC no_s noN)) (allC (heldP' (id := n' + 1 + 2) _ rfl rfl (by omega) (noC no_s (noC (f0.no (b := (n' + 1 + 2, obt)) (by simp)) (noC no_s noN)))) rfl))), ?_⟩
    have hcl := hft.cols
    have hil := hft.idx
    rw [hw _ (by omega) (by omega)]
    refine WC_enc (m := uvE t.cols.l.length) f2 rfl rfl rfl (appUint _ (by omega) (by omega) _ (mapl (by simp only [List.length_append]; omega))) (by omega) (by omega) ?_
    intro p5 H5 f3 q3
    have hB3 := (f3.box (n' + 1 + 2, obt) (by simp)).2.2
    simp only at hB3
    rw [← hobt] at hB3
    simp only [go_sem, reduceIte, Nat.reduceEqDiff, Nat.reduceAdd, Nat.reduceLeDiff, Nat.reduceLT, hB3]
    have hlen3 : (pre ++ uvE t.id.toNat ++ encS t.name ++ uvE t.cols.l.length).length ≤ 785960500 := by
      have := uvE_len t.cols.l.length
      simp only [List.length_append]
      omega
    generalize hpr3 : pre ++ uvE t.id.toNat ++ encS t.name ++ uvE t.cols.l.length = pre3 at f3 hlen3
    refine WP_scan rfl 51 t.cols.l.length (fun _ => True) (fun i T H n => n' + 20 ≤ n ∧ Enc 1 H n (T 4) (pre3 ++ (t.cols.l.take i).flatMap encCol) [(n' + 1 + 2, obt), (0, ob0)]) rfl ⟨by omega, ?_⟩ ?_ ?_
    · rw [List.take_zero, List.flatMap_nil, List.append_nil]
      exact f3.keep (by omega)
    · rintro i T7 H7 n7 hlti hfT7 hi7 ⟨hn7, k3⟩ _
      have r49 : T7 49 = .s (t.cols.sv Col.row) := hfT7 49 rfl
      have r50 : T7 50 = .i64 t.cols.l.length := hfT7 50 rfl
      clear hfT7
      have hfc := hft.col i hlti
      have hvc := hvt.cols.col _ hlti
      have hji : (i : Int) < t.cols.l.length := by omega
      have hj0 : (0 : Int) ≤ i := by omega
      have hcl3 := cols_len hft i
      rw [flat_step (f := encCol) hlti]
      simp only [go_sem, reduceIte, Nat.reduceEqDiff, Nat.reduceAdd, Nat.reduceLeDiff, Nat.reduceLT, r49, r50, hi7, hji, decide_true, ia_col, hj0, and_self, Col.row]
      generalize t.cols.l.getD i default = x at hfc hvc
      refine ⟨hlti, ?_⟩
      generalize hobc : HObj.box 40 _ = obc
      have k4 := (k3.keep (n' := n7 + 1 + 2) (by omega)).add (ob := obc) (Nat.le_refl _)
      have c1 := encS_len x.name
      refine WC_enc (m := encS x.name) k4 rfl rfl rfl (appStr _ (by omega) _ (mapl (by simp only [List.length_append]; omega))) (by omega) (by omega) ?_
      intro p6 H6 k5 _
      have hC1 := (k5.box (n7 + 1 + 2, obc) (by simp)).2.2
      simp only at hC1
      rw [← hobc] at hC1
      simp only [go_sem, reduceIte, Nat.reduceEqDiff, Nat.reduceAdd, Nat.reduceLeDiff, Nat.reduceLT, hC1]
      have hty := hvc.2
      rw [hw _ hty.1 (by omega)]
      have c2 := uvE_len x.ty.toNat
      refine WC_enc (m := uvE x.ty.toNat) k5 rfl rfl rfl (appUint _ hty.1 (by omega) _ (mapl (by simp only [List.length_append]; omega))) (by omega) (by omega) ?_
      intro p7 H7' k6 _
      simp only [go_sem, reduceIte, Nat.reduceEqDiff, Nat.reduceAdd, Nat.reduceLeDiff, Nat.reduceLT, hi7, wrap_succ (show i < 4611686018427387904 by omega)]
      have kn : ∀ a b : SV, ∀ x ∈ [PV.s a, T7 4, PV.s b], n7 + 1 + 2 ∉ heads x := fun a b => noC no_s (noC (k4.no (b := (n7 + 1 + 2, obc)) (by simp)) (noC no_s noN))
      refine ⟨allC (heldP' (id := n7 + 1 + 2) _ rfl rfl (by omega) (kn _ _)) (allC (heldP' (id := n7 + 1 + 2) _ rfl rfl (by omega) (kn _ _)) (allC (heldQ' (id := n7 + 1 + 2) _ rfl rfl (by omega) (noC no_s noN)) (allC (heldQ' (id := n7 + 1 + 2) _ rfl rfl (by omega) (noC no_s noN)) (allC (heldR [.s _, T7 4, .s _] rfl rfl (by omega) (noC no_s (noC (k4.new (by omega)) (noC no_s noN)))) rfl)))), by omega, ?_⟩
      have := (k6.less (B' := [(n' + 1 + 2, obt), (0, ob0)]) (by simp)).keep (n' := n7 + 12 + 1 + 1 + 2) (by omega)
      unfold encCol
      rw [← List.append_assoc, ← List.append_assoc]
      exact this
    · rintro T7 H7 n7 hfT7 hi7 ⟨hn7, k3⟩ _
      have r50 : T7 50 = .i64 t.cols.l.length := hfT7 50 rfl
      have r1 : T7 1 = T' 1 := hfT7 1 rfl
      have r6 : T7 6 = .ptr (n' + 1 + 2) 0 := hfT7 6 rfl
      have r28 : T7 28 = T' 28 := hfT7 28 rfl
      have r29 : T7 29 = T' 29 := hfT7 29 rfl
      have r30 : T7 30 = T' 30 := hfT7 30 rfl
      clear hfT7
      rw [List.take_length] at k3
      have hD1 := (k3.box (n' + 1 + 2, obt) (by simp)).2.2
      simp only at hD1
      rw [← hobt] at hD1
      simp only [go_sem, reduceIte, Nat.reduceEqDiff, Nat.reduceAdd, Nat.reduceLeDiff, Nat.reduceLT, r50, hi7, Int.lt_irrefl, decide_false, r6, hD1]
      have hcl3 := cols_len hft t.cols.l.length
      rw [List.take_length] at hcl3
      have hkl := hft.key
      refine WC_enc (m := encI t.key.l) (k3.keep (n' := n7 + 1 + 3) (by omega)) rfl rfl rfl (putInts t.key (by omega) (fun i hi => ?_) _ (mapl (by simp only [List.length_append]; omega))) (by omega) (by omega) ?_
      · obtain ⟨q, hq, rfl⟩ := getD_idx hi
        have := hvt.key.at_ q hq
        omega
      intro p8 H8 k8 _
      have hD2 := (k8.box (n' + 1 + 2, obt) (by simp)).2.2
      simp only at hD2
      rw [← hobt] at hD2
      simp only [go_sem, reduceIte, Nat.reduceEqDiff, Nat.reduceAdd, Nat.reduceLeDiff, Nat.reduceLT, r6, hD2]
      rw [hw _ (by omega) (by omega)]
      have u4 := uvE_len t.idx.l.length
      have u5 := encI_len t.key.l
      refine WC_enc (m := uvE t.idx.l.length) k8 rfl rfl rfl (appUint _ (by omega) (by omega) _ (mapl (by simp only [List.length_append]; omega))) (by omega) (by omega) ?_
      intro p9 H9 k9 _
      have hD3 := (k9.box (n' + 1 + 2, obt) (by simp)).2.2
      simp only at hD3
      rw [← hobt] at hD3
      simp only [go_sem, reduceIte, Nat.reduceEqDiff, Nat.reduceAdd, Nat.reduceLeDiff, Nat.reduceLT, r6, hD3]
      have kn : ∀ a b : SV, ∀ x ∈ [PV.s a, T7 4, PV.s b], n' + 1 + 2 ∉ heads x := fun a b => noC no_s (noC (k3.no (b := (n' + 1 + 2, obt)) (by simp)) (noC no_s noN))
      refine ⟨allC (heldP' (id := n' + 1 + 2) _ rfl r6 (by omega) (kn _ _)) (allC (heldP' (id := n' + 1 + 2) _ rfl rfl (by omega) (kn _ _)) (allC (heldS rfl) (allC (heldQ' (id := n' + 1 + 2) _ rfl r6 (by omega) (noC no_s noN)) (allC (heldQ' (id := n' + 1 + 2) _ rfl rfl (by omega) (noC no_s noN)) (allC (heldR [.s _, T7 4, .s _] rfl rfl (by omega) (noC no_s (noC (k3.new (by omega)) (noC no_s noN)))) rfl))))), ?_⟩
      have hlen9 : (pre3 ++ t.cols.l.flatMap encCol ++ encI t.key.l ++ uvE t.idx.l.length).length ≤ 785960500 + 168821 + 4020 + 10 := by
        simp only [List.length_append]
        omega
      generalize hpr9 : pre3 ++ t.cols.l.flatMap encCol ++ encI t.key.l ++ uvE t.idx.l.length = pre9 at k9 hlen9
      refine WP_scan rfl 76 t.idx.l.length (fun _ => True) (fun i T H n => n7 + 10 ≤ n ∧ Enc 1 H n (T 4) (pre9 ++ (t.idx.l.take i).flatMap encIdx) [(n' + 1 + 2, obt), (0, ob0)]) rfl ⟨by omega, ?_⟩ ?_ ?_
      · rw [List.take_zero, List.flatMap_nil, List.append_nil]
        exact k9.keep (by omega)
      · rintro i T8 H10 n8 hlti hfT8 hi8 ⟨hn8, m3⟩ _
        have r74 : T8 74 = .s (t.idx.sv Idx.row) := hfT8 74 rfl
        have r75 : T8 75 = .i64 t.idx.l.length := hfT8 75 rfl
        clear hfT8
        have hfx := hft.ix i hlti
        have hvx := hvt.ix _ hlti
        have hji : (i : Int) < t.idx.l.length := by omega
        have hj0 : (0 : Int) ≤ i := by omega
        have hil3 := idxs_len hft i
        rw [flat_step (f := encIdx) hlti]
        simp only [go_sem, reduceIte, Nat.reduceEqDiff, Nat.reduceAdd, Nat.reduceLeDiff, Nat.reduceLT, r74, r75, hi8, hji, decide_true, ia_idx, hj0, and_self, Idx.row]
        have hxid := hids _ (getD_mem (l := t.idx.l) default hlti)
        generalize t.idx.l.getD i default = x at hfx hvx hxid
        refine ⟨hlti, ?_⟩
        generalize hobx : HObj.box 51 _ = obx
        have m4 := (m3.keep (n' := n8 + 1 + 2) (by omega)).add (ob := obx) (Nat.le_refl _)
        have c1 := encS_len x.name
        have c2 := uvE_len x.id.toNat
        have fx1 := hfx.1
        have fx2 := hfx.2
        rw [hw _ hxid.1 (by omega)]
        refine WC_enc (m := uvE x.id.toNat) m4 rfl rfl rfl (appUint _ hxid.1 (by omega) _ (mapl (by simp only [List.length_append]; omega))) (by omega) (by omega) ?_
        intro q6 X6 m5 _
        have hC1 := (m5.box (n8 + 1 + 2, obx) (by simp)).2.2
        simp only at hC1
        rw [← hobx] at hC1
        simp only [go_sem, reduceIte, Nat.reduceEqDiff, Nat.reduceAdd, Nat.reduceLeDiff, Nat.reduceLT, hC1]
        refine WC_enc (m := encS x.name) m5 rfl rfl rfl (appStr _ (by omega) _ (mapl (by simp only [List.length_append]; omega))) (by omega) (by omega) ?_
        intro q7 X7 m6 _
        have hC2 := (m6.box (n8 + 1 + 2, obx) (by simp)).2.2
        simp only at hC2
        rw [← hobx] at hC2
        simp only [go_sem, reduceIte, Nat.reduceEqDiff, Nat.reduceAdd, Nat.reduceLeDiff, Nat.reduceLT, hC2]
        refine WC_enc (m := encI x.cols.l) m6 rfl rfl rfl (putInts x.cols (by omega) (fun a ha => ?_) _ (mapl (by simp only [List.length_append]; omega))) (by omega) (by omega) ?_
        · obtain ⟨q, hq, rfl⟩ := getD_idx ha
          have := hvx.idxs.at_ q hq
          omega
        intro q8 X8 m7 _
        simp only [go_sem, reduceIte, Nat.reduceEqDiff, Nat.reduceAdd, Nat.reduceLeDiff, Nat.reduceLT, hi8, wrap_succ (show i < 4611686018427387904 by omega)]
        have kn : ∀ a b : SV, ∀ x ∈ [PV.s a, T8 4, PV.s b], n8 + 1 + 2 ∉ heads x := fun a b => noC no_s (noC (m4.no (b := (n8 + 1 + 2, obx)) (by simp)) (noC no_s noN))
        have kn5 : ∀ a b : SV, ∀ x ∈ [PV.s a, q6, PV.s b], n8 + 1 + 2 ∉ heads x := fun a b => noC no_s (noC (m5.no (b := (n8 + 1 + 2, obx)) (by simp)) (noC no_s noN))
        have k1 : ∀ a : SV, ∀ x ∈ [PV.s a], n8 + 1 + 2 ∉ heads x := fun a => noC no_s noN
        refine ⟨allC (heldP' (id := n8 + 1 + 2) _ rfl rfl (by omega) (k1 _)) (allC (heldP' (id := n8 + 1 + 2) _ rfl rfl (by omega) (kn _ _)) (allC (heldP' (id := n8 + 1 + 2) _ rfl rfl (by omega) (k1 _)) (allC (heldP' (id := n8 + 1 + 2) _ rfl rfl (by omega) (kn _ _))
          (allC (heldP' (id := n8 + 1 + 2) _ rfl rfl (by omega) (k1 _)) (allC (heldP' (id := n8 + 1 + 2) _ rfl rfl (by omega) (kn _ _)) (allC (heldP' (id := n8 + 1 + 2) _ rfl rfl (by omega) (kn5 _ _)) (allC (heldP' (id := n8 + 1 + 2) _ rfl rfl (by omega) (k1 _)) (allC (heldP' (id := n8 + 1 + 2) _ rfl rfl (by omega) (kn _ _)) (allC (heldP' (id := n8 + 1 + 2) _ rfl rfl (by omega) (kn5 _ _)) rfl))))))))), by omega, ?_⟩
        have := (m7.less (B' := [(n' + 1 + 2, obt), (0, ob0)]) (by simp)).keep (n' := n8 + 15 + 1 + 1 + 2) (by omega)
        rw [show encIdx x = uvE x.id.toNat ++ encS x.name ++ encI x.cols.l from rfl]
        simpa only [List.append_assoc] using this
      · rintro T8 H10 n8 hfT8 hi8 ⟨hn8, m3⟩ _
        have r75 : T8 75 = .i64 t.idx.l.length := hfT8 75 rfl
        have s30 : T8 30 = T7 30 := hfT8 30 rfl
        clear hfT8
        rw [List.take_length] at m3
        have u30 : T8 30 = .i64 j := by rw [s30, r30, hi']
        simp only [go_sem, reduceIte, Nat.reduceEqDiff, Nat.reduceAdd, Nat.reduceLeDiff, Nat.reduceLT, r75, hi8, Int.lt_irrefl, decide_false, u30, wrap_succ (show j < 4611686018427387904 by omega)]
        refine ⟨by omega, ?_⟩
        have := (m3.less (B' := [(0, ob0)]) (by simp)).keep (n' := n8 + 1 + 2) (by omega)
        unfold encTab
        rw [← hpr9, ← hpr3] at this
        simpa only [List.append_assoc] using this
  · rintro T' H' n' hfT hi' ⟨hn', e3⟩ _
    have g1 : T' 1 = .ptr 0 0 := hfT 1 rfl
    have g29 : T' 29 = .i64 c.tabs.l.length := hfT 29 rfl
    clear hfT
    rw [List.take_length] at e3
    have hA3 := (e3.box (0, ob0) (by simp)).2.2
    simp only at hA3
    rw [← hob] at hA3
    simp only [go_sem, reduceIte, Nat.reduceEqDiff, Nat.reduceAdd, Nat.reduceLeDiff, Nat.reduceLT, g29, hi', Int.lt_irrefl, decide_false, g1, hA3]
    rw [hw _ (by omega) (by omega)]
    have htl := tabs_len hc c.tabs.l.length
    rw [List.take_length] at htl
    have hlt3 : (uvE c.next.toNat ++ uvE c.tabs.l.length ++ c.tabs.l.flatMap encTab).length ≤ 785960020 := by
      simp only [List.length_append]; omega
    generalize hpr : uvE c.next.toNat ++ uvE c.tabs.l.length ++ c.tabs.l.flatMap encTab = pre at e3 hlt3
    have hu3 := uvE_len c.views.l.length
    refine WC_enc (m := uvE c.views.l.length) e3 rfl rfl rfl (appUint _ (by omega) (by omega) _ (mapl (by omega))) (by omega) (by omega) ?_
    intro p3 H3 e4 _
    have hA4 := (e4.box (0, ob0) (by simp)).2.2
    simp only at hA4
    rw [← hob] at hA4
    simp only [go_sem, reduceIte, Nat.reduceEqDiff, Nat.reduceAdd, Nat.reduceLeDiff, Nat.reduceLT, g1, hA4]
    have hl4 : (pre ++ uvE c.views.l.length).length ≤ 785960030 := by
      simp only [List.length_append]; omega
    generalize hpr4 : pre ++ uvE c.views.l.length = pre4 at e4 hl4
    refine WP_scan rfl 102 c.views.l.length (fun _ => True) (fun i T H n => n' + 7 ≤ n ∧ Enc 1 H n (T 4) (pre4 ++ (c.views.l.take i).flatMap encViw) [(0, ob0)]) rfl ⟨by omega, ?_⟩ ?_ ?_
    · rw [List.take_zero, List.flatMap_nil, List.append_nil]
      exact e4.keep (by omega)
    · rintro i T7 H7 n7 hlti hfT7 hi7 ⟨hn7, k3⟩ _
      have r100 : T7 100 = .s (c.views.sv Viw.row) := hfT7 100 rfl
      have r101 : T7 101 = .i64 c.views.l.length := hfT7 101 rfl
      clear hfT7
      have hfv := hc.view i hlti
      have hji : (i : Int) < c.views.l.length := by omega
      have hj0 : (0 : Int) ≤ i := by omega
      have hvl := views_len hc i
      rw [flat_step (f := encViw) hlti]
      simp only [go_sem, reduceIte, Nat.reduceEqDiff, Nat.reduceAdd, Nat.reduceLeDiff, Nat.reduceLT, r100, r101, hi7, hji, decide_true, ia_viw, hj0, and_self, Viw.row]
      have hvid : 0 ≤ (c.views.l.getD i default).id ∧ (c.views.l.getD i default).id ≤ 2147483647 := by
        have := hv.id_ (c.views.l.getD i default).id (by
          simp only [ids, List.mem_append, List.mem_map]
          exact .inr ⟨_, getD_mem _ hlti, rfl⟩)
        omega
      generalize c.views.l.getD i default = x at hfv hvid
      refine ⟨hlti, ?_⟩
      generalize hobv : HObj.box 53 _ = obv
      have k4 := (k3.keep (n' := n7 + 1 + 2) (by omega)).add (ob := obv) (Nat.le_refl _)
      have fx1 := hfv.1
      have fx2 := hfv.2
      have c1 := encS_len x.name
      have c2 := encS_len x.text
      have c3 := uvE_len x.id.toNat
      rw [hw _ hvid.1 (by omega)]
      split
      · rename_i hm
        refine WC_enc (m := uvE x.id.toNat) k4 rfl rfl rfl (appUint _ hvid.1 (by omega) _ (mapl (by simp only [List.length_append]; omega))) (by omega) (by omega) ?_
        intro q6 X6 m5 _
        have hC1 := (m5.box (n7 + 1 + 2, obv) (by simp)).2.2
        simp only at hC1
        rw [← hobv] at hC1
        simp only [go_sem, reduceIte, Nat.reduceEqDiff, Nat.reduceAdd, Nat.reduceLeDiff, Nat.reduceLT, hC1]
        refine WC_enc (m := encS x.name) m5 rfl rfl rfl (appStr _ (by omega) _ (mapl (by simp only [List.length_append]; omega))) (by omega) (by omega) ?_
        intro q7 X7 m6 _
        have hC2 := (m6.box (n7 + 1 + 2, obv) (by simp)).2.2
        simp only at hC2
        rw [← hobv] at hC2
        simp only [go_sem, reduceIte, Nat.reduceEqDiff, Nat.reduceAdd, Nat.reduceLeDiff, Nat.reduceLT, hC2]
        refine WC_enc (m := encS x.text) m6 rfl rfl rfl (appStr _ (by omega) _ (mapl (by simp only [List.length_append]; omega))) (by omega) (by omega) ?_
        intro q8 X8 m7 _
        have hC3 := (m7.box (n7 + 1 + 2, obv) (by simp)).2.2
        simp only at hC3
        rw [← hobv] at hC3
        simp only [go_sem, reduceIte, Nat.reduceEqDiff, Nat.reduceAdd, Nat.reduceLeDiff, Nat.reduceLT, hC3]
        refine WC_enc (m := uvE 1) m7 rfl rfl rfl (appUint _ (by omega) (by omega) _ (mapl (by simp only [List.length_append]; omega))) (by omega) (by omega) ?_
        intro q9 X9 m8 _
        simp only [go_sem, reduceIte, Nat.reduceEqDiff, Nat.reduceAdd, Nat.reduceLeDiff, Nat.reduceLT, hi7, wrap_succ (show i < 4611686018427387904 by omega)]
        have kn : ∀ a b : SV, ∀ x ∈ [PV.s a, T7 4, PV.s b], n7 + 1 + 2 ∉ heads x := fun a b => noC no_s (noC (k4.no (b := (n7 + 1 + 2, obv)) (by simp)) (noC no_s noN))
        have kn5 : ∀ a b : SV, ∀ x ∈ [PV.s a, q6, PV.s b], n7 + 1 + 2 ∉ heads x := fun a b => noC no_s (noC (m5.no (b := (n7 + 1 + 2, obv)) (by simp)) (noC no_s noN))
        have k1 : ∀ a : SV, ∀ x ∈ [PV.s a], n7 + 1 + 2 ∉ heads x := fun a => noC no_s noN
        refine ⟨allC (heldP' (id := n7 + 1 + 2) _ rfl rfl (by omega) (k1 _)) (allC (heldP' (id := n7 + 1 + 2) _ rfl rfl (by omega) (kn _ _)) (allC (heldP' (id := n7 + 1 + 2) _ rfl rfl (by omega) (k1 _)) (allC (heldP' (id := n7 + 1 + 2) _ rfl rfl (by omega) (kn _ _))
          (allC (heldP' (id := n7 + 1 + 2) _ rfl rfl (by omega) (k1 _)) (allC (heldP' (id := n7 + 1 + 2) _ rfl rfl (by omega) (kn _ _)) (allC (heldP' (id := n7 + 1 + 2) _ rfl rfl (by omega) (kn5 _ _)) (allC (heldP' (id := n7 + 1 + 2) _ rfl rfl (by omega) (k1 _)) (allC (heldP' (id := n7 + 1 + 2) _ rfl rfl (by omega) (kn _ _)) (allC (heldP' (id := n7 + 1 + 2) _ rfl rfl (by omega) (kn5 _ _)) rfl))))))))), by omega, ?_⟩
        have := m8.less (B' := [(0, ob0)]) (by simp)
        rw [show encViw x = uvE x.id.toNat ++ encS x.name ++ encS x.text ++ uvE 1 from by rw [encViw, if_pos hm]]
        simp only [List.append_assoc] at this ⊢
        exact this.keep (by omega)
      · rename_i hm
        refine WC_enc (m := uvE x.id.toNat) k4 rfl rfl rfl (appUint _ hvid.1 (by omega) _ (mapl (by simp only [List.length_append]; omega))) (by omega) (by omega) ?_
        intro q6 X6 m5 _
        have hC1 := (m5.box (n7 + 1 + 2, obv) (by simp)).2.2
        simp only at hC1
        rw [← hobv] at hC1
        simp only [go_sem, reduceIte, Nat.reduceEqDiff, Nat.reduceAdd, Nat.reduceLeDiff, Nat.reduceLT, hC1]
        refine WC_enc (m := encS x.name) m5 rfl rfl rfl (appStr _ (by omega) _ (mapl (by simp only [List.length_append]; omega))) (by omega) (by omega) ?_
        intro q7 X7 m6 _
        have hC2 := (m6.box (n7 + 1 + 2, obv) (by simp)).2.2
        simp only at hC2
        rw [← hobv] at hC2
        simp only [go_sem, reduceIte, Nat.reduceEqDiff, Nat.reduceAdd, Nat.reduceLeDiff, Nat.reduceLT, hC2]
        refine WC_enc (m := encS x.text) m6 rfl rfl rfl (appStr _ (by omega) _ (mapl (by simp only [List.length_append]; omega))) (by omega) (by omega) ?_
        intro q8 X8 m7 _
        have hC3 := (m7.box (n7 + 1 + 2, obv) (by simp)).2.2
        simp only at hC3
        rw [← hobv] at hC3
        simp only [go_sem, reduceIte, Nat.reduceEqDiff, Nat.reduceAdd, Nat.reduceLeDiff, Nat.reduceLT, hC3]
        refine WC_enc (m := uvE 0) m7 rfl rfl rfl (appUint _ (by omega) (by omega) _ (mapl (by simp only [List.length_append]; omega))) (by omega) (by omega) ?_
        intro q9 X9 m8 _
        simp only [go_sem, reduceIte, Nat.reduceEqDiff, Nat.reduceAdd, Nat.reduceLeDiff, Nat.reduceLT, hi7, wrap_succ (show i < 4611686018427387904 by omega)]
        have kn : ∀ a b : SV, ∀ x ∈ [PV.s a, T7 4, PV.s b], n7 + 1 + 2 ∉ heads x := fun a b => noC no_s (noC (k4.no (b := (n7 + 1 + 2, obv)) (by simp)) (noC no_s noN))
        have kn5 : ∀ a b : SV, ∀ x ∈ [PV.s a, q6, PV.s b], n7 + 1 + 2 ∉ heads x := fun a b => noC no_s (noC (m5.no (b := (n7 + 1 + 2, obv)) (by simp)) (noC no_s noN))
        have k1 : ∀ a : SV, ∀ x ∈ [PV.s a], n7 + 1 + 2 ∉ heads x := fun a => noC no_s noN
        refine ⟨allC (heldP' (id := n7 + 1 + 2) _ rfl rfl (by omega) (k1 _)) (allC (heldP' (id := n7 + 1 + 2) _ rfl rfl (by omega) (kn _ _)) (allC (heldP' (id := n7 + 1 + 2) _ rfl rfl (by omega) (k1 _)) (allC (heldP' (id := n7 + 1 + 2) _ rfl rfl (by omega) (kn _ _))
          (allC (heldP' (id := n7 + 1 + 2) _ rfl rfl (by omega) (k1 _)) (allC (heldP' (id := n7 + 1 + 2) _ rfl rfl (by omega) (kn _ _)) (allC (heldP' (id := n7 + 1 + 2) _ rfl rfl (by omega) (kn5 _ _)) (allC (heldP' (id := n7 + 1 + 2) _ rfl rfl (by omega) (k1 _)) (allC (heldP' (id := n7 + 1 + 2) _ rfl rfl (by omega) (kn _ _)) (allC (heldP' (id := n7 + 1 + 2) _ rfl rfl (by omega) (kn5 _ _)) rfl))))))))), by omega, ?_⟩
        have := m8.less (B' := [(0, ob0)]) (by simp)
        rw [show encViw x = uvE x.id.toNat ++ encS x.name ++ encS x.text ++ uvE 0 from by rw [encViw, if_neg hm]]
        simp only [List.append_assoc] at this ⊢
        exact this.keep (by omega)
    · rintro T7 H7 n7 hfT7 hi7 ⟨hn7, k3⟩ _
      have r101 : T7 101 = .i64 c.views.l.length := hfT7 101 rfl
      clear hfT7
      rw [List.take_length] at k3
      simp only [go_sem, reduceIte, Nat.reduceEqDiff, Nat.reduceAdd, Nat.reduceLeDiff, Nat.reduceLT, r101, hi7, Int.lt_irrefl, decide_false]
      obtain ⟨s, hs, hl⟩ := k3.own.back
      simp only [hs, bnd_some, WX_some]
      refine ⟨s, rfl, ?_⟩
      rw [hl, ← hpr4, ← hpr]
      rfl
end Go.Vm
