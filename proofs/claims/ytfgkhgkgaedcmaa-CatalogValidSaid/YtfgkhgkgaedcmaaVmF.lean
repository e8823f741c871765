/- Each operation of the abstract machine is what the model's own operation does: those that make or write objects. -/
import Derived.Test.YtfgkhgkgaedcmaaVmE
set_option linter.unusedVariables false
set_option linter.unusedSimpArgs false
namespace Go.Vm
open Go.RowKit

section
variable {P : Program} {w w0 : World} {F : Fix} {C : Cx}

theorem setCells_length {α : Type} : ∀ (vs : List α) (c : List α) (off : Nat), (setCells c off vs).length = c.length
  | [], _, _ => rfl
  | v :: vs, c, off => by simp only [setCells]; rw [setCells_length vs]; simp
theorem setCells_get {α : Type} : ∀ (vs : List α) (c : List α) (off i : Nat), off + vs.length ≤ c.length → (setCells c off vs)[i]? = if off ≤ i ∧ i < off + vs.length then vs[i - off]? else c[i]?
  | [], c, off, i, _ => by simp only [setCells, List.length_nil, Nat.add_zero]; rw [if_neg (by omega)]
  | v :: vs, c, off, i, h => by
    simp only [List.length_cons] at h
    simp only [setCells]
    rw [setCells_get vs (c.set off v) (off + 1) i (by simp; omega)]
    by_cases h1 : off + 1 ≤ i ∧ i < off + 1 + vs.length
    · rw [if_pos h1, if_pos (by simp only [List.length_cons]; omega)]
      obtain ⟨k, rfl⟩ : ∃ k, i = off + 1 + k := ⟨i - (off + 1), by omega⟩
      have e1 : off + 1 + k - (off + 1) = k := by omega
      have e2 : off + 1 + k - off = k + 1 := by omega
      rw [e1, e2]
      simp
    · rw [if_neg h1]
      by_cases h2 : i = off
      · subst h2
        rw [if_pos (by simp only [List.length_cons]; omega), List.getElem?_set_self (by omega)]
        simp
      · rw [if_neg (by simp only [List.length_cons]; omega), List.getElem?_set_ne (by omega)]
theorem world_heap_ext {w w' : World} (h1 : w.tape = w'.tape) (h2 : w.drawn = w'.drawn) (h3 : w.os = w'.os) (h4 : w.output = w'.output) (h : ∀ k : Nat, w.heap[k]? = w'.heap[k]?) : w = w' := by
  cases w; cases w'
  simp only at h1 h2 h3 h4
  subst h1; subst h2; subst h3; subst h4
  congr 1
  exact Array.ext_getElem? h
theorem setRow_get (w : World) (g k : Nat) (cs : Array Value) : (w.setRow g cs).heap[k]? = if k = g then (w.heap[k]?).map fun | .cells _ e f => .cells cs e f | o => o else w.heap[k]? := by
  unfold World.setRow
  simp only [Array.getElem?_modify]
  by_cases e : g = k
  · subst e
    rw [if_pos rfl, if_pos rfl]
    cases w.heap[g]? with
    | none => rfl
    | some o => cases o <;> rfl
  · rw [if_neg e, if_neg (Ne.symm e)]
theorem setRow_setRow (w : World) (g : Nat) (a b : Array Value) : (w.setRow g a).setRow g b = w.setRow g b := by
  refine world_heap_ext rfl rfl rfl rfl (fun k => ?_)
  rw [setRow_get, setRow_get, setRow_get]
  by_cases e : k = g
  · rw [if_pos e, if_pos e, if_pos e]
    cases w.heap[k]? with
    | none => rfl
    | some o => cases o <;> rfl
  · rw [if_neg e, if_neg e, if_neg e]
theorem setCell_setRow {w : World} {g o : Nat} {cur : Array Value} {t : TypeId} {fr : Nat × Nat} (hg : w.heap[g]? = some (.cells cur t fr)) (v : Value) : w.setCell ⟨g, o, none⟩ v = w.setRow g (cur.setIfInBounds o v) := by
  refine world_heap_ext rfl rfl rfl rfl (fun k => ?_)
  rw [setRow_get]
  unfold World.setCell
  simp only [Array.getElem?_modify]
  by_cases e : g = k
  · subst e
    rw [if_pos rfl, if_pos rfl, hg]
    rfl
  · rw [if_neg e, if_neg (Ne.symm e)]
theorem run_storeCells_gen (P : Program) (g : Nat) (t : TypeId) (fr : Nat × Nat) (o : Nat) : ∀ (vs : List Value) (i : Nat) (cur : Array Value) (w : World), w.heap[g]? = some (.cells cur t fr) → o + i + vs.length ≤ cur.size →
    (fr = (0, 0) ∨ cur.size ≤ fr.1) → (∀ v ∈ vs, v.oneCell' = true) → (storeCells ⟨g, o, none⟩ vs i).run P w = .ok () (w.setRow g (setCells cur.toList (o + i) vs).toArray)
  | [], i, cur, w, hg, _, _, _ => by
    simp only [storeCells, setCells, Array.toArray_toList]
    rw [setRow_self w g cur t fr hg]
    rfl
  | v :: rest, i, cur, w, hg, hl, hf, h1 => by
    simp only [List.length_cons] at hl
    have hcell : w.cell? ⟨g, o + i, none⟩ = some cur[o + i] := by simp [World.cell?, hg, show o + i < cur.size by omega]
    have hfro : w.frozen? ⟨g, o + i, none⟩ = false := by
      obtain ⟨lo, hi⟩ := fr
      simp only [World.frozen?, hg]
      rcases hf with hf | hf
      · injection hf with e1 e2; subst e1; subst e2; simp
      · simp only at hf
        have : ¬ lo ≤ o + i := by omega
        simp [this]
    have hst : (store ((⟨g, o, none⟩ : Addr).add i) v).run P w = .ok () (w.setRow g (cur.setIfInBounds (o + i) v)) := by
      rw [add_none, run_store P w _ v _ (h1 v (by simp)), hcell]
      simp only [hfro]
      rw [← setCell_setRow hg v]
      simp
    simp only [storeCells, Sem.run_bind, hst, Result.andThen_ok]
    rw [run_storeCells_gen P g t fr o rest (i + 1) (cur.setIfInBounds (o + i) v) _ (setRow_heap w g cur _ t fr hg) (by simp; omega) (by simpa using hf) (fun u hu => h1 u (List.mem_cons_of_mem _ hu)), setRow_setRow]
    simp only [setCells, Nat.add_assoc]
    congr 3
    rw [Array.toList_setIfInBounds]
theorem run_storeVar_gen {t : TypeId} {y : TI} (hy : ti P t = some y) {g o : Nat} {ty : TypeId} {fr : Nat × Nat} {cur : Array Value} {u : Value} (hg : w.heap[g]? = some (.cells cur ty fr))
    (hl : u.cells.size = y.size) (ho : o + y.size ≤ cur.size) (hf : fr = (0, 0) ∨ cur.size ≤ fr.1) (h1 : ∀ v ∈ u.cells.toList, v.oneCell' = true) :
    (storeVar t ⟨g, o, none⟩ u).run P w = .ok () (w.setRow g (setCells cur.toList o u.cells.toList).toArray) := by
  obtain ⟨f⟩ := ti_facts hy
  have := run_storeCells_gen P g ty fr o u.cells.toList 0 cur w hg (by simp; omega) hf h1
  simp only [storeVar, Sem.run_bind, f.run_size, Result.andThen_ok, hl]
  simpa using this

theorem PRel.keep {C C' : Cx} (hk : ∀ id, Keeps C C' id) (hF : C'.F = C.F) {p : PV} {v : Value} (h : PRel C p v) : PRel C' p v := h.mono (fun b o v e => by rw [hF]; exact e) hk
/-! ### stores -/
/-- One object is written; its block keeps its kind. -/
theorem Rel.write {id : Nat} {ho : HObj} {w' : World} (hR : Rel w0 C w) (ha : (C.H id).alive = true) (hb : Below w0.heap.size w0 w') (hsz : w.heap.size ≤ w'.heap.size)
    (hoth : ∀ k, k < w.heap.size → k ≠ C.σ id → w'.heap[k]? = w.heap[k]?)
    (hF : ∀ o v, C.F (C.σ id) o = some v → w'.cell? ⟨C.σ id, o, none⟩ = some v)
    (hk : Keeps C { C with H := C.H.set id ho } id) (hok : ObjOk { C with H := C.H.set id ho } w' id) :
    Rel w0 { C with H := C.H.set id ho } w' ∧ Ext C w { C with H := C.H.set id ho } w' := by
  have hne : ∀ j, j ≠ id → (C.H.set id ho) j = C.H j := fun j e => if_neg e
  have hk' : ∀ j, Keeps C { C with H := C.H.set id ho } j := by
    intro j
    by_cases e : j = id
    · subst e; exact hk
    · unfold Keeps
      cases hb : C.H j with
      | dead => trivial
      | box ty cells => exact ⟨cells, (hne j e).trans hb, rfl⟩
      | sarr ty sz ver fz ap es => exact ⟨ver, fz, es, (hne j e).trans hb, Nat.le_refl _, fun _ => ⟨rfl, rfl, rfl⟩⟩
      | map es => exact ⟨es, (hne j e).trans hb, rfl⟩
  have hal : ((C.H.set id ho) id).alive = true := Keeps.alive hk ha
  have halive : ∀ j, ((C.H.set id ho) j).alive = true → (C.H j).alive = true := by
    intro j hj
    by_cases e : j = id
    · subst e; exact ha
    · rw [hne j e] at hj; exact hj
  refine ⟨Rel.ofObj hb (fun b o v hv => ?_) (fun j hj => ?_) (fun i j hi hj e => hR.inj i j (halive i hi) (halive j hj) e) (fun j => ?_), ⟨fun _ _ _ h => h, hk', fun b hb hn => hoth b hb (fun e => hn id ha e.symm), fun j hj => .inl ⟨j, halive j hj, rfl⟩, hsz, fun _ _ _ h => .inl h⟩⟩
  · by_cases e : b = C.σ id
    · subst e; exact hF o v hv
    · have hc := hR.cell b o v hv
      exact (World.cell?_of_block (a := ⟨b, o, none⟩) (hoth b (World.block_lt_of_cell? w ⟨b, o, none⟩ hc) e)).trans hc
  · have := hR.lt j (halive j hj)
    exact ⟨this.1, Nat.lt_of_lt_of_le this.2 hsz⟩
  · by_cases e : j = id
    · subst e; exact hok
    · by_cases hja : (C.H j).alive = true
      · exact (hR.objOk j).move (hne j e) rfl rfl (hoth _ (hR.lt j hja).2 (fun hs => e (hR.inj j id hja ha hs))) (fun _ _ _ h => h) (fun _ => rfl) hk'
      · have hd : C.H j = .dead := by
          cases hb : C.H j <;> rw [hb] at hja <;> first | rfl | exact absurd rfl hja
        unfold ObjOk
        rw [show ({ C with H := C.H.set id ho } : Cx).H j = .dead from (hne j e).trans hd]
        trivial
theorem setRow_below {g : Nat} {cs : Array Value} (h : Below w0.heap.size w0 w) (hg : w0.heap.size ≤ g) : Below w0.heap.size w0 (w.setRow g cs) :=
  ⟨h.os, h.tape, h.output, by simp [World.setRow]; exact h.size, fun k hk => by rw [setRow_other w g k cs (by omega)]; exact h.block k hk⟩
theorem setRow_size (w : World) (g : Nat) (cs : Array Value) : (w.setRow g cs).heap.size = w.heap.size := by simp [World.setRow]
theorem cells_ok {p : PV} {u : Value} (hp : PRel C p u) (hc : p.cells.all cellOk = true) : ∀ v ∈ u.cells.toList, v.oneCell' = true := by
  intro v hv
  obtain ⟨hl, hr⟩ := hp.cells
  obtain ⟨i, hi, e⟩ := List.mem_iff_getElem.1 hv
  simp at hi e
  have hlt : i < p.cells.length := by omega
  have h1 := hr i p.cells[i] (List.getElem?_eq_getElem hlt)
  have h2 := List.all_eq_true.1 hc p.cells[i] (List.getElem_mem hlt)
  have := h1.one h2
  simp only [Array.getD_eq_getD_getElem?, hi, Array.getElem?_eq_getElem, Option.getD_some] at this
  rw [← e]
  exact this

theorem alive_box {id : Nat} {ty : TypeId} {cells : List PV} (h : C.H id = .box ty cells) : (C.H id).alive = true := by rw [h]; rfl
theorem storeO_ptr {t : TypeId} {id off : Nat} {y : TI} {ty : TypeId} {cells : List PV} {x : PV} {u : Value} (hR : Rel w0 C w) (hy : ti P t = some y) (hH : C.H id = .box ty cells) (hx : PRel C x u)
    (h1 : x.cells.length = y.size) (h2 : off + y.size ≤ cells.length) (h3 : x.cells.all cellOk = true) :
    ∃ w', (storeVar t ⟨C.σ id, off, none⟩ u).run P w = .ok () w' ∧ Rel w0 { C with H := C.H.set id (.box ty (setCells cells off x.cells)) } w' ∧ Ext C w { C with H := C.H.set id (.box ty (setCells cells off x.cells)) } w' := by
  obtain ⟨vs, g1, g2, g3, g4⟩ := hR.box id ty cells hH
  obtain ⟨hl, hr⟩ := hx.cells
  have hone := cells_ok hx h3
  have hrun := run_storeVar_gen hy g1 (u := u) (o := off) (by omega) (by omega) (.inl rfl) hone
  refine ⟨_, hrun, Rel.write hR (alive_box hH) (setRow_below hR.below (hR.lt id (alive_box hH)).1) (by rw [setRow_size]; exact Nat.le_refl _) (fun k _ hk => setRow_other w _ k _ hk) (fun o v hv => by rw [g4] at hv; cases hv) ?_ ?_⟩
  · unfold Keeps
    rw [hH]
    exact ⟨_, if_pos rfl, rfl⟩
  · have hk : ∀ j, Keeps C { C with H := C.H.set id (.box ty (setCells cells off x.cells)) } j := by
      intro j
      unfold Keeps
      by_cases e : j = id
      · subst e
        rw [hH]
        exact ⟨_, if_pos rfl, rfl⟩
      · have hj : (C.H.set id (.box ty (setCells cells off x.cells))) j = C.H j := if_neg e
        cases hb : C.H j with
        | dead => trivial
        | box ty cells => exact ⟨cells, hj.trans hb, rfl⟩
        | sarr ty sz ver fz ap es => exact ⟨ver, fz, es, hj.trans hb, Nat.le_refl _, fun _ => ⟨rfl, rfl, rfl⟩⟩
        | map es => exact ⟨es, hj.trans hb, rfl⟩
    unfold ObjOk
    rw [show ({ C with H := C.H.set id (.box ty (setCells cells off x.cells)) } : Cx).H id = .box ty (setCells cells off x.cells) from if_pos rfl]
    refine ⟨_, setRow_heap w _ _ _ _ _ g1, by simp [setCells_length, g2], fun j p hj => ?_, g4⟩
    rw [setCells_get _ _ _ _ (by omega)] at hj
    have hcell : (setCells vs.toList off u.cells.toList).toArray.getD j undef = if off ≤ j ∧ j < off + u.cells.toList.length then u.cells.getD (j - off) undef else vs.getD j undef := by
      have := setCells_get u.cells.toList vs.toList off j (by simp; omega)
      simp only [Array.getD_eq_getD_getElem?, List.getElem?_toArray, this]
      split <;> simp
    rw [hcell]
    simp only [Array.length_toList, ← hl]
    split at hj
    · rename_i hh
      rw [if_pos hh]
      have h4 := hr _ _ hj
      exact ⟨PRel.keep hk rfl h4, h4.one (List.all_eq_true.1 h3 p (List.mem_of_getElem? hj))⟩
    · rename_i hh
      rw [if_neg hh]
      exact ⟨PRel.keep hk rfl (g3 j p hj).1, (g3 j p hj).2⟩

theorem toSVs_some : ∀ {l : List PV} {q : List SV}, toSVs l = some q → l = q.map .s
  | [], q, h => by
    simp only [toSVs] at h
    injection h with h
    subst h
    rfl
  | p :: r, q, h => by
    cases p <;> simp only [toSVs] at h <;> try (cases h; done)
    split at h
    · rename_i q' hq
      injection h with h
      subst h
      rw [toSVs_some hq]
      rfl
    · cases h

theorem alive_sarr {id ty sz ver : Nat} {fz ap : Bool} {es : List (List SV)} (h : C.H id = .sarr ty sz ver fz ap es) : (C.H id).alive = true := by rw [h]; rfl
theorem storeO_aptr {t : TypeId} {id i off : Nat} {y : TI} {ty : TypeId} {sz ver : Nat} {ap : Bool} {es : List (List SV)} {c : List SV} {x : PV} {xs : List SV} {u : Value} (hR : Rel w0 C w) (hy : ti P t = some y)
    (hH : C.H id = .sarr ty sz ver false ap es) (hx : PRel C x u) (hxs : toSVs x.cells = some xs) (h1 : xs.length = y.size) (hi : es[i]? = some c) (h2 : off + y.size ≤ c.length) :
    ∃ w', (storeVar t ⟨C.σ id, i * sz + off, none⟩ u).run P w = .ok () w' ∧ Rel w0 { C with H := C.H.set id (.sarr ty sz ver false ap (es.set i (setCells c off xs))) } w' ∧
      Ext C w { C with H := C.H.set id (.sarr ty sz ver false ap (es.set i (setCells c off xs))) } w' := by
  obtain ⟨g1, g2, g3, g4, cur, fr, k1, k2, k2', k3, k4, k5⟩ := hR.sarr _ _ _ _ _ _ _ hH
  have hcell := toSVs_some hxs
  obtain ⟨hl, hr⟩ := hx.cells
  have hall : x.cells.all cellOk = true := by rw [hcell]; simp [cellOk]
  have hone := cells_ok hx hall
  have hlx : x.cells.length = xs.length := by rw [hcell]; simp
  have hc : c.length = sz := g2 c (List.mem_of_getElem? hi)
  have hil := (List.getElem?_eq_some_iff.1 hi).1
  have hmul : i * sz + sz ≤ C.cap id * sz := by rw [← Nat.succ_mul]; exact Nat.mul_le_mul_right _ (by omega)
  have hrun := run_storeVar_gen hy k1 (u := u) (o := i * sz + off) (by omega) (by omega) k2' hone
  refine ⟨_, hrun, Rel.write hR (alive_sarr hH) (setRow_below hR.below (hR.lt id (alive_sarr hH)).1) (by rw [setRow_size]; exact Nat.le_refl _) (fun k _ hk => setRow_other w _ k _ hk) (fun o v hv => by have := (k5 o v hv).1; cases this) ?_ ?_⟩
  · unfold Keeps
    rw [hH]
    exact ⟨ver, false, _, if_pos rfl, Nat.le_refl _, fun _ => ⟨rfl, rfl, by simp⟩⟩
  · unfold ObjOk
    rw [show ({ C with H := C.H.set id (.sarr ty sz ver false ap (es.set i (setCells c off xs))) } : Cx).H id = .sarr ty sz ver false ap (es.set i (setCells c off xs)) from if_pos rfl]
    refine ⟨g1, fun d hd => ?_, by simpa using g3, g4, _, fr, setRow_heap w _ _ _ _ _ k1, k2, by simpa [setCells_length] using k2', by simpa [setCells_length] using k3, fun i' d j p hi' hj => ?_, fun o v hv => ?_⟩
    · rcases List.mem_or_eq_of_mem_set hd with hd | hd
      · exact g2 d hd
      · subst hd; rw [setCells_length]; exact hc
    · have hget : (setCells cur.toList (i * sz + off) u.cells.toList).toArray.getD (i' * sz + j) undef =
          if i * sz + off ≤ i' * sz + j ∧ i' * sz + j < i * sz + off + u.cells.toList.length then u.cells.getD (i' * sz + j - (i * sz + off)) undef else cur.getD (i' * sz + j) undef := by
        have := setCells_get u.cells.toList cur.toList (i * sz + off) (i' * sz + j) (by simp; omega)
        simp only [Array.getD_eq_getD_getElem?, List.getElem?_toArray, this]
        split <;> simp
      rw [hget]
      simp only [Array.length_toList, ← hl, hlx]
      by_cases e : i' = i
      · subst e
        rw [List.getElem?_set_self (by omega)] at hi'
        injection hi' with hi'
        subst hi'
        rw [setCells_get _ _ _ _ (by omega)] at hj
        split at hj
        · rename_i hh
          rw [if_pos (by omega)]
          have e2 : i' * sz + j - (i' * sz + off) = j - off := by omega
          rw [e2]
          have h4 := hr (j - off) (.s p) (by rw [hcell, List.getElem?_map, hj]; rfl)
          cases h4 with
          | s _ _ h4 => exact h4
        · rename_i hh
          rw [if_neg (by omega)]
          exact k4 i' c j p hi hj
      · rw [List.getElem?_set_ne (Ne.symm e)] at hi'
        have hd := g2 d (List.mem_of_getElem? hi')
        have hjl := (List.getElem?_eq_some_iff.1 hj).1
        rw [if_neg]
        · exact k4 i' d j p hi' hj
        · rintro ⟨a1, a2⟩
          rcases Nat.lt_or_gt_of_ne e with hlt | hgt
          · have : i' * sz + sz ≤ i * sz := by rw [← Nat.succ_mul]; exact Nat.mul_le_mul_right _ hlt
            omega
          · have : i * sz + sz ≤ i' * sz := by rw [← Nat.succ_mul]; exact Nat.mul_le_mul_right _ hgt
            omega
    · have := (k5 o v hv).1
      cases this
end
end Go.Vm
