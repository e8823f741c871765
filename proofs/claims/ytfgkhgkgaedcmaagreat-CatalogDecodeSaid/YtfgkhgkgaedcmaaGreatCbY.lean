/- What was encoded is decoded: plain lists, no program. -/
import Derived.Test.YtfgkhgkgaedcmaaGreatCbX
import Derived.Test.YtfgkhgkgaedcmaaGreatCbR
set_option linter.unusedVariables false
set_option linter.unusedSimpArgs false
set_option maxRecDepth 100000
namespace Go.Vm

def Rds {α : Type} (read : Dst → α × Dst) (e : List UInt8) (x : α) : Prop := ∀ (d : Dst) (r : List UInt8), d.2 = true → d.1.l = e ++ r → (read d).1 = x ∧ (read d).2.1.l = r ∧ (read d).2.2 = true
theorem rdsNum {n : Int} (h0 : 0 ≤ n) (h1 : n ≤ 2147483647) : Rds dNum (uvE n.toNat) n := fun d r hok hd => by
  have h := uvD_uvE (m := n.toNat) (by omega) r
  unfold dNum
  rw [hd, h]
  simp only
  rw [if_pos (by omega)]
  refine ⟨by simp only; omega, ?_, hok⟩
  simp only [Slc.cut_l, hd, List.take_length, List.drop_left]
theorem rdsTxt {t : List UInt8} (h : t.length ≤ 1073741824) : Rds dTxt (encS t) t := fun d r hok hd => by
  unfold dTxt
  rw [hd, dStr_encS h r]
  refine ⟨rfl, ?_, hok⟩
  simp only [Slc.cut_l, hd, List.take_length, List.drop_left]
theorem rdsLoop {α β : Type} {read : Dst → α × Dst} {enc : β → List UInt8} {f : β → α} : ∀ (l : List β), (∀ x ∈ l, Rds read (enc x) (f x)) → ∀ (d : Dst) (r : List UInt8), d.2 = true → d.1.l = l.flatMap enc ++ r → (dLoop read l.length d).1 = l.map f ∧ (dLoop read l.length d).2.1.l = r ∧ (dLoop read l.length d).2.2 = true
  | [], _, d, r, hok, hd => ⟨rfl, hd, hok⟩
  | x :: l, h, d, r, hok, hd => by
    rw [List.flatMap_cons, List.append_assoc] at hd
    obtain ⟨h1, h2, h3⟩ := h x (List.mem_cons_self ..) d _ hok hd
    obtain ⟨i1, i2, i3⟩ := rdsLoop l (fun y hy => h y (List.mem_cons_of_mem _ hy)) (read d).2 r h3 h2
    rw [List.length_cons, dLoop, if_pos hok]
    exact ⟨by rw [List.map_cons, ← h1, ← i1], i2, i3⟩
theorem rdsList {α β : Type} {read : Dst → α × Dst} {enc : β → List UInt8} {f : β → α} {l : List β} (h : ∀ x ∈ l, Rds read (enc x) (f x)) (hl : l.length ≤ 2147483647) : Rds (dList read) (uvE l.length ++ l.flatMap enc) (l.map f) := fun d r hok hd => by
  rw [List.append_assoc] at hd
  obtain ⟨h1, h2, h3⟩ := rdsNum (n := (l.length : Int)) (by omega) (by omega) d _ hok hd
  unfold dList
  rw [h1]
  exact rdsLoop l h (dNum d).2 r h3 h2
def nIdx (x : Idx) : Idx := ⟨x.id, x.name, .ofL x.cols.l⟩
def nTab (t : Tab) : Tab := ⟨t.id, t.name, .ofL t.cols.l, .ofL t.key.l, .ofL (t.idx.l.map nIdx)⟩
def nCat (c : Cat) : Cat := ⟨.ofL (c.tabs.l.map nTab), .ofL c.views.l, c.next⟩
theorem rdsCol {x : Col} (h : ColOk x) (hn : x.name.length ≤ 401) : Rds dCol (encCol x) x := fun d r hok hd => by
  unfold encCol at hd
  rw [List.append_assoc] at hd
  obtain ⟨h1, h2, h3⟩ := rdsTxt (t := x.name) (by omega) d _ hok hd
  obtain ⟨i1, i2, i3⟩ := rdsNum h.2.1 (by have := h.2.2; omega) (dTxt d).2 _ h3 h2
  unfold dCol
  exact ⟨by simp only [h1, i1], i2, i3⟩
theorem rdsInts {l : List Int} (h : ∀ i ∈ l, 0 ≤ i ∧ i ≤ 2147483647) (hl : l.length ≤ 401) : Rds dInts (encI l) l := by
  have := rdsList (read := dNum) (enc := fun i : Int => uvE i.toNat) (f := id) (l := l) (fun x hx => rdsNum (h x hx).1 (h x hx).2) (by omega)
  rw [List.map_id] at this
  exact this
theorem rdsIdx {x : Idx} {n : Int} (hx : FewX x) (hid : 0 ≤ x.id ∧ x.id ≤ 2147483647) (h : IdxsOk x.cols.l n) (hn : n ≤ 401) : Rds dIdx (encIdx x) (nIdx x) := fun d r hok hd => by
  unfold encIdx at hd
  rw [List.append_assoc, List.append_assoc] at hd
  obtain ⟨h1, h2, h3⟩ := rdsNum hid.1 hid.2 d _ hok hd
  obtain ⟨i1, i2, i3⟩ := rdsTxt (t := x.name) (by have := hx.1; omega) (dNum d).2 _ h3 h2
  obtain ⟨j1, j2, j3⟩ := rdsInts (l := x.cols.l) (fun i hi => by
    obtain ⟨q, hq, rfl⟩ := getD_idx hi
    have := h.at_ q hq
    omega) hx.2 (dTxt (dNum d).2).2 _ i3 i2
  refine ⟨?_, j2, j3⟩
  show (⟨_, _, _⟩ : Idx) = _
  rw [h1, i1, j1]
  rfl
theorem rdsTab {t : Tab} (ht : FewT t) (hv : TabP t) (hid : 0 ≤ t.id ∧ t.id ≤ 2147483647) (hids : ∀ x ∈ t.idx.l, 0 ≤ x.id ∧ x.id ≤ 2147483647) : Rds dTab (encTab t) (nTab t) := fun d r hok hd => by
  have e : encTab t = uvE t.id.toNat ++ (encS t.name ++ ((uvE t.cols.l.length ++ t.cols.l.flatMap encCol) ++ (encI t.key.l ++ (uvE t.idx.l.length ++ t.idx.l.flatMap encIdx)))) := by simp only [encTab, List.append_assoc]
  rw [e] at hd
  have hcl := ht.cols
  have hil := ht.idx
  rw [List.append_assoc] at hd
  obtain ⟨h1, h2, h3⟩ := rdsNum hid.1 hid.2 d _ hok hd
  rw [List.append_assoc] at h2
  obtain ⟨i1, i2, i3⟩ := rdsTxt (t := t.name) (by have := ht.name; omega) (dNum d).2 _ h3 h2
  rw [List.append_assoc] at i2
  obtain ⟨j1, j2, j3⟩ := rdsList (read := dCol) (enc := encCol) (f := id) (l := t.cols.l) (fun x hx => by
    obtain ⟨q, hq, rfl⟩ := getD_idx hx
    exact rdsCol (hv.cols.col q hq) (ht.col q hq)) (by omega) (dTxt (dNum d).2).2 _ i3 i2
  rw [List.append_assoc] at j2
  obtain ⟨k1, k2, k3⟩ := rdsInts (l := t.key.l) (fun i hi => by
    obtain ⟨q, hq, rfl⟩ := getD_idx hi
    have := hv.key.at_ q hq
    omega) ht.key (dList dCol (dTxt (dNum d).2).2).2 _ j3 j2
  obtain ⟨l1, l2, l3⟩ := rdsList (read := dIdx) (enc := encIdx) (f := nIdx) (l := t.idx.l) (fun x hx => by
    have hxi := hids x hx
    obtain ⟨q, hq, rfl⟩ := getD_idx hx
    exact rdsIdx (ht.ix q hq) hxi (hv.ix q hq).idxs (by omega)) (by omega) (dInts (dList dCol (dTxt (dNum d).2).2).2).2 _ k3 k2
  refine ⟨?_, l2, l3⟩
  show (⟨_, _, _, _, _⟩ : Tab) = _
  rw [h1, i1, j1, k1, l1, List.map_id]
  rfl
theorem rdsViw {v : Viw} (h : v.name.length ≤ 401 ∧ v.text.length ≤ 20000) (hid : 0 ≤ v.id ∧ v.id ≤ 2147483647) : Rds dViw (encViw v) v := fun d r hok hd => by
  have e : encViw v = uvE v.id.toNat ++ (encS v.name ++ (encS v.text ++ uvE ((if v.mat = true then 1 else 0 : Nat) : Int).toNat)) := by
    rw [Int.toNat_natCast]
    simp only [encViw, List.append_assoc]
  rw [e, List.append_assoc] at hd
  obtain ⟨h1, h2, h3⟩ := rdsNum hid.1 hid.2 d _ hok hd
  rw [List.append_assoc] at h2
  obtain ⟨i1, i2, i3⟩ := rdsTxt (t := v.name) (by omega) (dNum d).2 _ h3 h2
  rw [List.append_assoc] at i2
  obtain ⟨j1, j2, j3⟩ := rdsTxt (t := v.text) (by omega) (dTxt (dNum d).2).2 _ i3 i2
  obtain ⟨k1, k2, k3⟩ := rdsNum (n := ((if v.mat = true then 1 else 0 : Nat) : Int)) (by omega) (by split <;> omega) (dTxt (dTxt (dNum d).2).2).2 _ j3 j2
  refine ⟨?_, k2, k3⟩
  show (⟨_, _, _, _⟩ : Viw) = _
  rw [h1, i1, j1, k1]
  obtain ⟨a, b, c, m⟩ := v
  cases m <;> rfl
theorem rdsCat {c : Cat} (hc : FewC c) (hv : ValidP c) : Rds dCat (encCat c) (nCat c) := fun d r hok hd => by
  have e : encCat c = uvE c.next.toNat ++ ((uvE c.tabs.l.length ++ c.tabs.l.flatMap encTab) ++ (uvE c.views.l.length ++ c.views.l.flatMap encViw)) := by simp only [encCat, List.append_assoc]
  have hn0 := hv.next0
  have hn1 := hv.next1
  have hl1 := hc.tabs
  have hl2 := hc.views
  have hid : ∀ x ∈ ids c, 0 ≤ x ∧ x ≤ 2147483647 := fun x hx => by have := hv.id_ x hx; omega
  rw [e, List.append_assoc] at hd
  obtain ⟨h1, h2, h3⟩ := rdsNum hn0 hn1 d _ hok hd
  rw [List.append_assoc] at h2
  obtain ⟨i1, i2, i3⟩ := rdsList (read := dTab) (enc := encTab) (f := nTab) (l := c.tabs.l) (fun t ht => by
    have h5 := hid t.id (by
      simp only [ids, List.mem_append, List.mem_flatMap, tids, List.mem_cons, List.mem_map]
      exact .inl ⟨t, ht, .inl rfl⟩)
    have h6 : ∀ x ∈ t.idx.l, 0 ≤ x.id ∧ x.id ≤ 2147483647 := fun x hx => hid x.id (by
      simp only [ids, List.mem_append, List.mem_flatMap, tids, List.mem_cons, List.mem_map]
      exact .inl ⟨t, ht, .inr ⟨x, hx, rfl⟩⟩)
    exact rdsTab (mem_getD (p := FewT) hc.tab t ht) (hv.tab t ht) h5 h6) (by omega) (dNum d).2 _ h3 h2
  obtain ⟨j1, j2, j3⟩ := rdsList (read := dViw) (enc := encViw) (f := id) (l := c.views.l) (fun v hw => rdsViw (mem_getD (p := fun v : Viw => v.name.length ≤ 401 ∧ v.text.length ≤ 20000) hc.view v hw) (hid v.id (by
      simp only [ids, List.mem_append, List.mem_map]
      exact .inr ⟨v, hw, rfl⟩))) (by omega) (dList dTab (dNum d).2).2 _ i3 i2
  refine ⟨?_, j2, j3⟩
  show (⟨_, _, _⟩ : Cat) = _
  rw [h1, i1, j1, List.map_id]
  rfl
end Go.Vm
