/- How the ties move when an object is made, frozen or written. -/
import Derived.Test.YtfgkhgkgaedcmaaGreatVmGA
import Derived.IntWalk
import Derived.Lib.AppendStr
section
set_option linter.unusedVariables false
set_option linter.unusedSimpArgs false
namespace Go.Vm
open Go.RowKit

section
variable {P : Program} {w w0 : World} {F : Fix} {C : Cx}

def ObjOk (C : Cx) (w : World) (id : Nat) : Prop :=
  match C.H id with
  | .dead => True
  | .box ty cells => ∃ vs, w.heap[C.σ id]? = some (.cells vs ty (0, 0)) ∧ vs.size = cells.length ∧
      (∀ (j : Nat) p, cells[j]? = some p → PRel C p (vs.getD j undef) ∧ (vs.getD j undef).oneCell' = true) ∧ ∀ o, C.F (C.σ id) o = none
  | .sarr ty sz ver fz ap es => 0 < sz ∧ (∀ c, c ∈ es → c.length = sz) ∧ es.length ≤ C.cap id ∧ C.cap id ≤ maxLen ∧
      ∃ cur fr, w.heap[C.σ id]? = some (.cells cur ty fr) ∧ (ap = true → fr = (0, 0)) ∧ (fr = (0, 0) ∨ cur.size ≤ fr.1) ∧ cur.size = C.cap id * sz ∧
      (∀ (i : Nat) c (j : Nat) p, es[i]? = some c → c[j]? = some p → SRel C.F p (cur.getD (i * sz + j) undef)) ∧
      (∀ o v, C.F (C.σ id) o = some v → fz = true ∧ o < es.length * sz)
  | .map es => ∃ ents clock, w.heap[C.σ id]? = some (.map ents clock) ∧ ents.size = es.length ∧
      ∀ (i : Nat) k v, es[i]? = some (k, v) → ∃ e, ents[i]? = some e ∧ SRel C.F k e.key ∧ SRel C.F v e.val
theorem Rel.objOk (h : Rel w0 C w) (id : Nat) : ObjOk C w id := by
  unfold ObjOk
  cases hb : C.H id with
  | dead => trivial
  | box ty cells => exact h.box id ty cells hb
  | sarr ty sz ver fz ap es => exact h.sarr id ty sz ver fz ap es hb
  | map es => exact h.map id es hb
theorem Rel.ofObj (hb : Below w0.heap.size w0 w) (hc : ∀ b o v, C.F b o = some v → w.cell? ⟨b, o, none⟩ = some v)
    (hl : ∀ id, (C.H id).alive = true → w0.heap.size ≤ C.σ id ∧ C.σ id < w.heap.size) (hi : ∀ i j, (C.H i).alive = true → (C.H j).alive = true → C.σ i = C.σ j → i = j)
    (ho : ∀ id, ObjOk C w id) : Rel w0 C w where
  below := hb
  cell := hc
  lt := hl
  inj := hi
  box := fun id ty cells h => by
    have := ho id
    unfold ObjOk at this
    rw [h] at this
    exact this
  sarr := fun id ty sz ver fz ap es h => by
    have := ho id
    unfold ObjOk at this
    rw [h] at this
    exact this
  map := fun id es h => by
    have := ho id
    unfold ObjOk at this
    rw [h] at this
    exact this
theorem ObjOk.move {C' : Cx} {w' : World} {id : Nat} (h : ObjOk C w id) (e1 : C'.H id = C.H id) (e2 : C'.σ id = C.σ id) (e3 : C'.cap id = C.cap id) (e4 : w'.heap[C.σ id]? = w.heap[C.σ id]?)
    (hF : ∀ b o v, C.F b o = some v → C'.F b o = some v) (hF2 : ∀ o, C'.F (C.σ id) o = C.F (C.σ id) o) (hk : ∀ id, Keeps C C' id) : ObjOk C' w' id := by
  unfold ObjOk at h ⊢
  rw [e1, e2, e3, e4]
  cases hb : C.H id with
  | dead => trivial
  | box ty cells =>
    rw [hb] at h
    obtain ⟨vs, h1, h2, h3, h4⟩ := h
    exact ⟨vs, h1, h2, fun j p hj => ⟨(h3 j p hj).1.mono hF hk, (h3 j p hj).2⟩, fun o => by rw [hF2, h4]⟩
  | sarr ty sz ver fz ap es =>
    rw [hb] at h
    obtain ⟨g1, g2, g3, g4, cur, fr, h1, h2, h2', h3, h4, h5⟩ := h
    exact ⟨g1, g2, g3, g4, cur, fr, h1, h2, h2', h3, fun i c j p hi hj => (h4 i c j p hi hj).mono hF, fun o v hv => h5 o v (by rw [← hF2]; exact hv)⟩
  | map es =>
    rw [hb] at h
    obtain ⟨ents, clock, h1, h2, h3⟩ := h
    refine ⟨ents, clock, h1, h2, fun i k v hi => ?_⟩
    obtain ⟨e, he, hk', hv⟩ := h3 i k v hi
    exact ⟨e, he, hk'.mono hF, hv.mono hF⟩

/-! ### a new object -/
def Cx.new (C : Cx) (nid b cap : Nat) (o : HObj) : Cx := { σ := fun j => if j = nid then b else C.σ j, cap := fun j => if j = nid then cap else C.cap j, F := C.F, H := C.H.set nid o }
def World.more (w : World) (o : Obj) (d : Nat) : World := { w with heap := w.heap.push o, drawn := d }
theorem more_old (w : World) (o : Obj) (d k : Nat) (h : k < w.heap.size) : (World.more w o d).heap[k]? = w.heap[k]? := by
  show (w.heap.push o)[k]? = _
  rw [Array.getElem?_push, if_neg (by omega)]
theorem more_new (w : World) (o : Obj) (d : Nat) : (World.more w o d).heap[w.heap.size]? = some o := by
  show (w.heap.push o)[w.heap.size]? = _
  simp
theorem more_size (w : World) (o : Obj) (d : Nat) : (World.more w o d).heap.size = w.heap.size + 1 := by
  show (w.heap.push o).size = _
  simp
theorem more_cell {a : Addr} {v : Value} (h : w.cell? a = some v) (o : Obj) (d : Nat) : (World.more w o d).cell? a = some v :=
  (World.cell?_of_block (more_old w o d _ (World.block_lt_of_cell? w a h))).trans h
theorem more_below (h : Below w0.heap.size w0 w) (o : Obj) (d : Nat) : Below w0.heap.size w0 (World.more w o d) :=
  ⟨h.os, h.tape, h.output, Nat.le_trans h.size (by rw [more_size]; omega), fun k hk => by rw [more_old _ _ _ _ (Nat.lt_of_lt_of_le hk h.size)]; exact h.block k hk⟩
theorem Keeps.new {nid b cap : Nat} {o : HObj} (hd : C.H nid = .dead) (id : Nat) : Keeps C (C.new nid b cap o) id := by
  by_cases e : id = nid
  · subst e
    unfold Keeps
    rw [hd]
    trivial
  · have h1 : (C.new nid b cap o).H id = C.H id := if_neg e
    have h2 : (C.new nid b cap o).σ id = C.σ id := if_neg e
    have h3 : (C.new nid b cap o).cap id = C.cap id := if_neg e
    unfold Keeps
    cases hb : C.H id with
    | dead => trivial
    | box ty cells => exact ⟨cells, h1.trans hb, h2⟩
    | sarr ty sz ver fz ap es => exact ⟨ver, fz, es, h1.trans hb, Nat.le_refl _, fun _ => ⟨h2, h3, rfl⟩⟩
    | map es => exact ⟨es, h1.trans hb, h2⟩
theorem Rel.new {nid cap d : Nat} {ho : HObj} {o : Obj} (hR : Rel w0 C w) (hd : C.H nid = .dead) (hok : ObjOk (C.new nid w.heap.size cap ho) (World.more w o d) nid) :
    Rel w0 (C.new nid w.heap.size cap ho) (World.more w o d) ∧ Ext C w (C.new nid w.heap.size cap ho) (World.more w o d) := by
  have hne : ∀ id, id ≠ nid → (C.new nid w.heap.size cap ho).H id = C.H id ∧ (C.new nid w.heap.size cap ho).σ id = C.σ id ∧ (C.new nid w.heap.size cap ho).cap id = C.cap id :=
    fun id e => ⟨if_neg e, if_neg e, if_neg e⟩
  have hs : (C.new nid w.heap.size cap ho).σ nid = w.heap.size := if_pos rfl
  refine ⟨Rel.ofObj (more_below hR.below o d) (fun b k v hv => more_cell (hR.cell b k v hv) o d) (fun id ha => ?_) (fun i j hi hj e => ?_) (fun id => ?_), ⟨fun _ _ _ h => h, Keeps.new hd, fun b hb _ => more_old w o d b hb, fun id ha => ?_, by rw [more_size]; omega, fun _ _ _ h => .inl h⟩⟩
  · by_cases e : id = nid
    · subst e
      rw [hs, more_size]
      exact ⟨hR.below.size, by omega⟩
    · obtain ⟨e1, e2, _⟩ := hne id e
      rw [e1] at ha
      rw [e2, more_size]
      have := hR.lt id ha
      omega
  · by_cases ei : i = nid <;> by_cases ej : j = nid
    · omega
    · obtain ⟨e1, e2, _⟩ := hne j ej
      subst ei
      rw [hs, e2] at e
      rw [e1] at hj
      have := (hR.lt j hj).2
      omega
    · obtain ⟨e1, e2, _⟩ := hne i ei
      subst ej
      rw [hs, e2] at e
      rw [e1] at hi
      have := (hR.lt i hi).2
      omega
    · obtain ⟨e1, e2, _⟩ := hne i ei
      obtain ⟨e1', e2', _⟩ := hne j ej
      rw [e1] at hi
      rw [e1'] at hj
      rw [e2, e2'] at e
      exact hR.inj i j hi hj e
  · by_cases e : id = nid
    · subst e; exact hok
    · obtain ⟨e1, e2, e3⟩ := hne id e
      by_cases ha : (C.H id).alive = true
      · exact (hR.objOk id).move e1 e2 e3 (more_old w o d _ (hR.lt id ha).2) (fun _ _ _ h => h) (fun _ => rfl) (Keeps.new hd)
      · unfold ObjOk
        rw [e1]
        cases hb : C.H id <;> rw [hb] at ha <;> first | trivial | exact absurd rfl ha
  · by_cases e : id = nid
    · subst e
      rw [hs]
      exact .inr (Nat.le_refl _)
    · obtain ⟨e1, e2, _⟩ := hne id e
      rw [e1] at ha
      exact .inl ⟨id, ha, e2⟩

/-! ### freezing -/
def rowF (b sz : Nat) (n : Nat) (cur : Array Value) : Fix := fun b' o => if b' = b ∧ o < n * sz then some (cur.getD o undef) else none
def Fix.join (F G : Fix) : Fix := fun b o => match F b o with
  | some v => some v
  | none => G b o
theorem Fix.join_left {F G : Fix} {b o : Nat} {v : Value} (h : F b o = some v) : (F.join G) b o = some v := by simp [Fix.join, h]
theorem sarr_slice {id ty sz ver : Nat} {fz ap : Bool} {es : List (List SV)} (hR : Rel w0 C w) (hc : C.H id = .sarr ty sz ver fz ap es) :
    ∃ C', C'.H = freeze1 C.H id ∧ C'.σ = C.σ ∧ C'.cap = C.cap ∧ Rel w0 C' w ∧ Ext C w C' w ∧
      ∀ off n, off + n ≤ es.length → ∀ c, n ≤ c → c ≤ maxLen → SRel C'.F (.slice ((es.drop off).take n) false) (.slice (some ⟨C.σ id, off * sz, none⟩) n c) := by
  obtain ⟨g1, g2, g3, g4, cur, fr, h1, h2, h2', h3, h4, h5⟩ := hR.sarr _ _ _ _ _ _ _ hc
  have hal : (C.H id).alive = true := by rw [hc]; rfl
  have hmul : es.length * sz ≤ cur.size := by rw [h3]; exact Nat.mul_le_mul_right _ g3
  have hlt : ∀ (i : Nat) (c : List SV) (j : Nat), es[i]? = some c → j < c.length → i * sz + j < es.length * sz := by
    intro i c j hi hj
    have e1 := g2 c (List.mem_of_getElem? hi)
    have e2 := (List.getElem?_eq_some_iff.1 hi).1
    have : i * sz + sz ≤ es.length * sz := by rw [← Nat.succ_mul]; exact Nat.mul_le_mul_right _ e2
    omega
  let C' : Cx := { σ := C.σ, cap := C.cap, F := C.F.join (rowF (C.σ id) sz es.length cur), H := freeze1 C.H id }
  have hF : ∀ b o v, C.F b o = some v → C'.F b o = some v := fun b o v h => Fix.join_left h
  have hFid : ∀ o, o < es.length * sz → C'.F (C.σ id) o = some (cur.getD o undef) := by
    intro o ho
    show Fix.join _ _ _ _ = _
    unfold Fix.join
    cases hv : C.F (C.σ id) o with
    | none => simp [rowF, ho]
    | some v =>
      have hcell := hR.cell _ _ _ hv
      have : w.cell? ⟨C.σ id, o, none⟩ = cur[o]? := by simp [World.cell?, h1]
      rw [this] at hcell
      simp [Array.getD_eq_getD_getElem?, hcell]
  have hFne : ∀ b o, b ≠ C.σ id → C'.F b o = C.F b o := by
    intro b o hb
    show Fix.join _ _ _ _ = _
    unfold Fix.join
    cases hv : C.F b o with
    | none => simp [rowF, hb]
    | some v => rfl
  have hFge : ∀ o v, C'.F (C.σ id) o = some v → o < es.length * sz := by
    intro o v hv
    have hv' : Fix.join C.F (rowF (C.σ id) sz es.length cur) (C.σ id) o = some v := hv
    unfold Fix.join at hv'
    cases hq : C.F (C.σ id) o with
    | none =>
      rw [hq] at hv'
      simp only [rowF] at hv'
      split at hv'
      · rename_i hh; exact hh.2
      · cases hv'
    | some u => exact (h5 o u hq).2
  have hHid : C'.H id = .sarr ty sz ver true ap es := by
    show freeze1 C.H id id = _
    unfold freeze1
    rw [hc]
    exact if_pos rfl
  have hHne : ∀ j, j ≠ id → C'.H j = C.H j := by
    intro j hj
    show freeze1 C.H id j = _
    unfold freeze1
    rw [hc]
    exact if_neg hj
  have hk : ∀ j, Keeps C C' j := by
    intro j
    by_cases e : j = id
    · subst e
      unfold Keeps
      rw [hc]
      exact ⟨ver, true, es, hHid, Nat.le_refl _, fun _ => ⟨rfl, rfl, rfl⟩⟩
    · unfold Keeps
      cases hb : C.H j with
      | dead => trivial
      | box ty cells => exact ⟨cells, (hHne j e).trans hb, rfl⟩
      | sarr ty sz ver fz ap es => exact ⟨ver, fz, es, (hHne j e).trans hb, Nat.le_refl _, fun _ => ⟨rfl, rfl, rfl⟩⟩
      | map es => exact ⟨es, (hHne j e).trans hb, rfl⟩
  have halive : ∀ j, (C'.H j).alive = (C.H j).alive := by
    intro j
    by_cases e : j = id
    · subst e; rw [hHid, hc]; rfl
    · rw [hHne j e]
  refine ⟨C', rfl, rfl, rfl, Rel.ofObj hR.below (fun b o v hv => ?_) (fun j hj => hR.lt j (by rw [← halive]; exact hj)) (fun i j hi hj e => hR.inj i j (by rw [← halive]; exact hi) (by rw [← halive]; exact hj) e) (fun j => ?_),
    ⟨hF, hk, fun _ _ _ => rfl, fun j hj => .inl ⟨j, by rw [← halive]; exact hj, rfl⟩, Nat.le_refl _, fun b o v hv => by
      by_cases hb : b = C.σ id
      · exact .inr (.inr ⟨id, hal, hb.symm⟩)
      · rw [hFne b o hb] at hv
        exact .inl hv⟩, fun off n hn c hc1 hc2 => ?_⟩
  · by_cases hb : b = C.σ id
    · subst hb
      have ho := hFge o v hv
      rw [hFid o ho] at hv
      injection hv with hv
      subst hv
      simp [World.cell?, h1, Array.getD_eq_getD_getElem?, show o < cur.size by omega]
    · rw [hFne b o hb] at hv
      exact hR.cell b o v hv
  · by_cases e : j = id
    · subst e
      unfold ObjOk
      rw [hHid]
      exact ⟨g1, g2, g3, g4, cur, fr, h1, h2, h2', h3, fun i c k p hi hk' => (h4 i c k p hi hk').mono hF, fun o v hv => ⟨rfl, hFge o v hv⟩⟩
    · by_cases ha : (C.H j).alive = true
      · refine (hR.objOk j).move (hHne j e) rfl rfl rfl hF (fun o => hFne _ _ (fun hs => e (hR.inj j id ha hal hs))) hk
      · unfold ObjOk
        rw [hHne j e]
        cases hb : C.H j <;> rw [hb] at ha <;> first | trivial | exact absurd rfl ha
  · have hlen : ((es.drop off).take n).length = n := by simp; omega
    have hget : ∀ i c, ((es.drop off).take n)[i]? = some c → es[off + i]? = some c := by
      intro i c hi
      rw [List.getElem?_take] at hi
      split at hi
      · rw [List.getElem?_drop] at hi; exact hi
      · cases hi
    have hs := SRel.slice (F := C'.F) ((es.drop off).take n) false ⟨C.σ id, off * sz, none⟩ c sz (fun i j => cur.getD ((off + i) * sz + j) undef)
      (fun c hc => g2 c (List.mem_of_mem_drop (List.mem_of_mem_take hc))) (fun _ => rfl) (by rw [hlen]; exact hc1) hc2 (fun h => by cases h)
      (fun i c j p hi hj => by
        have := hFid ((off + i) * sz + j) (hlt _ c j (hget i c hi) (List.getElem?_eq_some_iff.1 hj).1)
        show C'.F (C.σ id) (off * sz + (i * sz + j)) = _
        rw [← this, Nat.add_mul]
        congr 1
        omega)
      (fun i c j p hi hj => (h4 _ c j p (hget i c hi) hj).mono hF)
    rw [hlen] at hs
    exact hs
end
end Go.Vm
end
section
set_option linter.unusedVariables false
set_option linter.unusedSimpArgs false
namespace Go.Vm
open Go.RowKit

section
variable {P : Program} {w w0 : World} {F : Fix} {C : Cx}

theorem setCells_length {α : Type} : ∀ (vs : List α) (c : List α) (off : Nat), (setCells c off vs).length = c.length
  | [], _, _ => rfl
  | v :: vs, c, off => by simp only [setCells]; rw [setCells_length vs]; simp
theorem setCells_get {α : Type} : ∀ (vs : List α) (c : List α) (off i : Nat), off + vs.length ≤ c.length → (setCells c off vs)[i]? = if off ≤ i ∧ i < off + vs.length then vs[i - off]? else c[i]?
  | [], c, off, i, _ => by simp only [setCells, List.length_nil, Nat.add_zero]; rw [if_neg (by omega)]
  | v :: vs, c, off, i, h => by
    simp only [List.length_cons] at h
    simp only [setCells]
    rw [setCells_get vs (c.set off v) (off + 1) i (by simp; omega)]
    by_cases h1 : off + 1 ≤ i ∧ i < off + 1 + vs.length
    · rw [if_pos h1, if_pos (by simp only [List.length_cons]; omega)]
      obtain ⟨k, rfl⟩ : ∃ k, i = off + 1 + k := ⟨i - (off + 1), by omega⟩
      have e1 : off + 1 + k - (off + 1) = k := by omega
      have e2 : off + 1 + k - off = k + 1 := by omega
      rw [e1, e2]
      simp
    · rw [if_neg h1]
      by_cases h2 : i = off
      · subst h2
        rw [if_pos (by simp only [List.length_cons]; omega), List.getElem?_set_self (by omega)]
        simp
      · rw [if_neg (by simp only [List.length_cons]; omega), List.getElem?_set_ne (by omega)]
theorem world_heap_ext {w w' : World} (h1 : w.tape = w'.tape) (h2 : w.drawn = w'.drawn) (h3 : w.os = w'.os) (h4 : w.output = w'.output) (h : ∀ k : Nat, w.heap[k]? = w'.heap[k]?) : w = w' := by
  cases w; cases w'
  simp only at h1 h2 h3 h4
  subst h1; subst h2; subst h3; subst h4
  congr 1
  exact Array.ext_getElem? h
theorem setRow_get (w : World) (g k : Nat) (cs : Array Value) : (w.setRow g cs).heap[k]? = if k = g then (w.heap[k]?).map fun | .cells _ e f => .cells cs e f | o => o else w.heap[k]? := by
  unfold World.setRow
  simp only [Array.getElem?_modify]
  by_cases e : g = k
  · subst e
    rw [if_pos rfl, if_pos rfl]
    cases w.heap[g]? with
    | none => rfl
    | some o => cases o <;> rfl
  · rw [if_neg e, if_neg (Ne.symm e)]
theorem setRow_setRow (w : World) (g : Nat) (a b : Array Value) : (w.setRow g a).setRow g b = w.setRow g b := by
  refine world_heap_ext rfl rfl rfl rfl (fun k => ?_)
  rw [setRow_get, setRow_get, setRow_get]
  by_cases e : k = g
  · rw [if_pos e, if_pos e, if_pos e]
    cases w.heap[k]? with
    | none => rfl
    | some o => cases o <;> rfl
  · rw [if_neg e, if_neg e, if_neg e]
theorem setCell_setRow {w : World} {g o : Nat} {cur : Array Value} {t : TypeId} {fr : Nat × Nat} (hg : w.heap[g]? = some (.cells cur t fr)) (v : Value) : w.setCell ⟨g, o, none⟩ v = w.setRow g (cur.setIfInBounds o v) := by
  refine world_heap_ext rfl rfl rfl rfl (fun k => ?_)
  rw [setRow_get]
  unfold World.setCell
  simp only [Array.getElem?_modify]
  by_cases e : g = k
  · subst e
    rw [if_pos rfl, if_pos rfl, hg]
    rfl
  · rw [if_neg e, if_neg (Ne.symm e)]
theorem run_storeCells_gen (P : Program) (g : Nat) (t : TypeId) (fr : Nat × Nat) (o : Nat) : ∀ (vs : List Value) (i : Nat) (cur : Array Value) (w : World), w.heap[g]? = some (.cells cur t fr) → o + i + vs.length ≤ cur.size →
    (fr = (0, 0) ∨ cur.size ≤ fr.1) → (∀ v ∈ vs, v.oneCell' = true) → (storeCells ⟨g, o, none⟩ vs i).run P w = .ok () (w.setRow g (setCells cur.toList (o + i) vs).toArray)
  | [], i, cur, w, hg, _, _, _ => by
    simp only [storeCells, setCells, Array.toArray_toList]
    rw [setRow_self w g cur t fr hg]
    rfl
  | v :: rest, i, cur, w, hg, hl, hf, h1 => by
    simp only [List.length_cons] at hl
    have hcell : w.cell? ⟨g, o + i, none⟩ = some cur[o + i] := by simp [World.cell?, hg, show o + i < cur.size by omega]
    have hfro : w.frozen? ⟨g, o + i, none⟩ = false := by
      obtain ⟨lo, hi⟩ := fr
      simp only [World.frozen?, hg]
      rcases hf with hf | hf
      · injection hf with e1 e2; subst e1; subst e2; simp
      · simp only at hf
        have : ¬ lo ≤ o + i := by omega
        simp [this]
    have hst : (store ((⟨g, o, none⟩ : Addr).add i) v).run P w = .ok () (w.setRow g (cur.setIfInBounds (o + i) v)) := by
      rw [add_none, run_store P w _ v _ (h1 v (by simp)), hcell]
      simp only [hfro]
      rw [← setCell_setRow hg v]
      simp
    simp only [storeCells, Sem.run_bind, hst, Result.andThen_ok]
    rw [run_storeCells_gen P g t fr o rest (i + 1) (cur.setIfInBounds (o + i) v) _ (setRow_heap w g cur _ t fr hg) (by simp; omega) (by simpa using hf) (fun u hu => h1 u (List.mem_cons_of_mem _ hu)), setRow_setRow]
    simp only [setCells, Nat.add_assoc]
    congr 3
    rw [Array.toList_setIfInBounds]
theorem run_storeVar_gen {t : TypeId} {y : TI} (hy : ti P t = some y) {g o : Nat} {ty : TypeId} {fr : Nat × Nat} {cur : Array Value} {u : Value} (hg : w.heap[g]? = some (.cells cur ty fr))
    (hl : u.cells.size = y.size) (ho : o + y.size ≤ cur.size) (hf : fr = (0, 0) ∨ cur.size ≤ fr.1) (h1 : ∀ v ∈ u.cells.toList, v.oneCell' = true) :
    (storeVar t ⟨g, o, none⟩ u).run P w = .ok () (w.setRow g (setCells cur.toList o u.cells.toList).toArray) := by
  obtain ⟨f⟩ := ti_facts hy
  have := run_storeCells_gen P g ty fr o u.cells.toList 0 cur w hg (by simp; omega) hf h1
  simp only [storeVar, Sem.run_bind, f.run_size, Result.andThen_ok, hl]
  simpa using this

theorem PRel.keep {C C' : Cx} (hk : ∀ id, Keeps C C' id) (hF : C'.F = C.F) {p : PV} {v : Value} (h : PRel C p v) : PRel C' p v := h.mono (fun b o v e => by rw [hF]; exact e) hk
/-! ### stores -/
/-- One object is written; its block keeps its kind. -/
theorem Rel.write {id : Nat} {ho : HObj} {w' : World} (hR : Rel w0 C w) (ha : (C.H id).alive = true) (hb : Below w0.heap.size w0 w') (hsz : w.heap.size ≤ w'.heap.size)
    (hoth : ∀ k, k < w.heap.size → k ≠ C.σ id → w'.heap[k]? = w.heap[k]?)
    (hF : ∀ o v, C.F (C.σ id) o = some v → w'.cell? ⟨C.σ id, o, none⟩ = some v)
    (hk : Keeps C { C with H := C.H.set id ho } id) (hok : ObjOk { C with H := C.H.set id ho } w' id) :
    Rel w0 { C with H := C.H.set id ho } w' ∧ Ext C w { C with H := C.H.set id ho } w' := by
  have hne : ∀ j, j ≠ id → (C.H.set id ho) j = C.H j := fun j e => if_neg e
  have hk' : ∀ j, Keeps C { C with H := C.H.set id ho } j := by
    intro j
    by_cases e : j = id
    · subst e; exact hk
    · unfold Keeps
      cases hb : C.H j with
      | dead => trivial
      | box ty cells => exact ⟨cells, (hne j e).trans hb, rfl⟩
      | sarr ty sz ver fz ap es => exact ⟨ver, fz, es, (hne j e).trans hb, Nat.le_refl _, fun _ => ⟨rfl, rfl, rfl⟩⟩
      | map es => exact ⟨es, (hne j e).trans hb, rfl⟩
  have hal : ((C.H.set id ho) id).alive = true := Keeps.alive hk ha
  have halive : ∀ j, ((C.H.set id ho) j).alive = true → (C.H j).alive = true := by
    intro j hj
    by_cases e : j = id
    · subst e; exact ha
    · rw [hne j e] at hj; exact hj
  refine ⟨Rel.ofObj hb (fun b o v hv => ?_) (fun j hj => ?_) (fun i j hi hj e => hR.inj i j (halive i hi) (halive j hj) e) (fun j => ?_), ⟨fun _ _ _ h => h, hk', fun b hb hn => hoth b hb (fun e => hn id ha e.symm), fun j hj => .inl ⟨j, halive j hj, rfl⟩, hsz, fun _ _ _ h => .inl h⟩⟩
  · by_cases e : b = C.σ id
    · subst e; exact hF o v hv
    · have hc := hR.cell b o v hv
      exact (World.cell?_of_block (a := ⟨b, o, none⟩) (hoth b (World.block_lt_of_cell? w ⟨b, o, none⟩ hc) e)).trans hc
  · have := hR.lt j (halive j hj)
    exact ⟨this.1, Nat.lt_of_lt_of_le this.2 hsz⟩
  · by_cases e : j = id
    · subst e; exact hok
    · by_cases hja : (C.H j).alive = true
      · exact (hR.objOk j).move (hne j e) rfl rfl (hoth _ (hR.lt j hja).2 (fun hs => e (hR.inj j id hja ha hs))) (fun _ _ _ h => h) (fun _ => rfl) hk'
      · have hd : C.H j = .dead := by
          cases hb : C.H j <;> rw [hb] at hja <;> first | rfl | exact absurd rfl hja
        unfold ObjOk
        rw [show ({ C with H := C.H.set id ho } : Cx).H j = .dead from (hne j e).trans hd]
        trivial
theorem setRow_below {g : Nat} {cs : Array Value} (h : Below w0.heap.size w0 w) (hg : w0.heap.size ≤ g) : Below w0.heap.size w0 (w.setRow g cs) :=
  ⟨h.os, h.tape, h.output, by simp [World.setRow]; exact h.size, fun k hk => by rw [setRow_other w g k cs (by omega)]; exact h.block k hk⟩
theorem setRow_size (w : World) (g : Nat) (cs : Array Value) : (w.setRow g cs).heap.size = w.heap.size := by simp [World.setRow]
theorem cells_ok {p : PV} {u : Value} (hp : PRel C p u) (hc : p.cells.all cellOk = true) : ∀ v ∈ u.cells.toList, v.oneCell' = true := by
  intro v hv
  obtain ⟨hl, hr⟩ := hp.cells
  obtain ⟨i, hi, e⟩ := List.mem_iff_getElem.1 hv
  simp at hi e
  have hlt : i < p.cells.length := by omega
  have h1 := hr i p.cells[i] (List.getElem?_eq_getElem hlt)
  have h2 := List.all_eq_true.1 hc p.cells[i] (List.getElem_mem hlt)
  have := h1.one h2
  simp only [Array.getD_eq_getD_getElem?, hi, Array.getElem?_eq_getElem, Option.getD_some] at this
  rw [← e]
  exact this

theorem alive_box {id : Nat} {ty : TypeId} {cells : List PV} (h : C.H id = .box ty cells) : (C.H id).alive = true := by rw [h]; rfl
theorem storeO_ptr {t : TypeId} {id off : Nat} {y : TI} {ty : TypeId} {cells : List PV} {x : PV} {u : Value} (hR : Rel w0 C w) (hy : ti P t = some y) (hH : C.H id = .box ty cells) (hx : PRel C x u)
    (h1 : x.cells.length = y.size) (h2 : off + y.size ≤ cells.length) (h3 : x.cells.all cellOk = true) :
    ∃ w', (storeVar t ⟨C.σ id, off, none⟩ u).run P w = .ok () w' ∧ Rel w0 { C with H := C.H.set id (.box ty (setCells cells off x.cells)) } w' ∧ Ext C w { C with H := C.H.set id (.box ty (setCells cells off x.cells)) } w' := by
  obtain ⟨vs, g1, g2, g3, g4⟩ := hR.box id ty cells hH
  obtain ⟨hl, hr⟩ := hx.cells
  have hone := cells_ok hx h3
  have hrun := run_storeVar_gen hy g1 (u := u) (o := off) (by omega) (by omega) (.inl rfl) hone
  refine ⟨_, hrun, Rel.write hR (alive_box hH) (setRow_below hR.below (hR.lt id (alive_box hH)).1) (by rw [setRow_size]; exact Nat.le_refl _) (fun k _ hk => setRow_other w _ k _ hk) (fun o v hv => by rw [g4] at hv; cases hv) ?_ ?_⟩
  · unfold Keeps
    rw [hH]
    exact ⟨_, if_pos rfl, rfl⟩
  · have hk : ∀ j, Keeps C { C with H := C.H.set id (.box ty (setCells cells off x.cells)) } j := by
      intro j
      unfold Keeps
      by_cases e : j = id
      · subst e
        rw [hH]
        exact ⟨_, if_pos rfl, rfl⟩
      · have hj : (C.H.set id (.box ty (setCells cells off x.cells))) j = C.H j := if_neg e
        cases hb : C.H j with
        | dead => trivial
        | box ty cells => exact ⟨cells, hj.trans hb, rfl⟩
        | sarr ty sz ver fz ap es => exact ⟨ver, fz, es, hj.trans hb, Nat.le_refl _, fun _ => ⟨rfl, rfl, rfl⟩⟩
        | map es => exact ⟨es, hj.trans hb, rfl⟩
    unfold ObjOk
    rw [show ({ C with H := C.H.set id (.box ty (setCells cells off x.cells)) } : Cx).H id = .box ty (setCells cells off x.cells) from if_pos rfl]
    refine ⟨_, setRow_heap w _ _ _ _ _ g1, by simp [setCells_length, g2], fun j p hj => ?_, g4⟩
    rw [setCells_get _ _ _ _ (by omega)] at hj
    have hcell : (setCells vs.toList off u.cells.toList).toArray.getD j undef = if off ≤ j ∧ j < off + u.cells.toList.length then u.cells.getD (j - off) undef else vs.getD j undef := by
      have := setCells_get u.cells.toList vs.toList off j (by simp; omega)
      simp only [Array.getD_eq_getD_getElem?, List.getElem?_toArray, this]
      split <;> simp
    rw [hcell]
    simp only [Array.length_toList, ← hl]
    split at hj
    · rename_i hh
      rw [if_pos hh]
      have h4 := hr _ _ hj
      exact ⟨PRel.keep hk rfl h4, h4.one (List.all_eq_true.1 h3 p (List.mem_of_getElem? hj))⟩
    · rename_i hh
      rw [if_neg hh]
      exact ⟨PRel.keep hk rfl (g3 j p hj).1, (g3 j p hj).2⟩

theorem toSVs_some : ∀ {l : List PV} {q : List SV}, toSVs l = some q → l = q.map .s
  | [], q, h => by
    simp only [toSVs] at h
    injection h with h
    subst h
    rfl
  | p :: r, q, h => by
    cases p <;> simp only [toSVs] at h <;> try (cases h; done)
    split at h
    · rename_i q' hq
      injection h with h
      subst h
      rw [toSVs_some hq]
      rfl
    · cases h

theorem alive_sarr {id ty sz ver : Nat} {fz ap : Bool} {es : List (List SV)} (h : C.H id = .sarr ty sz ver fz ap es) : (C.H id).alive = true := by rw [h]; rfl
theorem storeO_aptr {t : TypeId} {id i off : Nat} {y : TI} {ty : TypeId} {sz ver : Nat} {ap : Bool} {es : List (List SV)} {c : List SV} {x : PV} {xs : List SV} {u : Value} (hR : Rel w0 C w) (hy : ti P t = some y)
    (hH : C.H id = .sarr ty sz ver false ap es) (hx : PRel C x u) (hxs : toSVs x.cells = some xs) (h1 : xs.length = y.size) (hi : es[i]? = some c) (h2 : off + y.size ≤ c.length) :
    ∃ w', (storeVar t ⟨C.σ id, i * sz + off, none⟩ u).run P w = .ok () w' ∧ Rel w0 { C with H := C.H.set id (.sarr ty sz ver false ap (es.set i (setCells c off xs))) } w' ∧
      Ext C w { C with H := C.H.set id (.sarr ty sz ver false ap (es.set i (setCells c off xs))) } w' := by
  obtain ⟨g1, g2, g3, g4, cur, fr, k1, k2, k2', k3, k4, k5⟩ := hR.sarr _ _ _ _ _ _ _ hH
  have hcell := toSVs_some hxs
  obtain ⟨hl, hr⟩ := hx.cells
  have hall : x.cells.all cellOk = true := by rw [hcell]; simp [cellOk]
  have hone := cells_ok hx hall
  have hlx : x.cells.length = xs.length := by rw [hcell]; simp
  have hc : c.length = sz := g2 c (List.mem_of_getElem? hi)
  have hil := (List.getElem?_eq_some_iff.1 hi).1
  have hmul : i * sz + sz ≤ C.cap id * sz := by rw [← Nat.succ_mul]; exact Nat.mul_le_mul_right _ (by omega)
  have hrun := run_storeVar_gen hy k1 (u := u) (o := i * sz + off) (by omega) (by omega) k2' hone
  refine ⟨_, hrun, Rel.write hR (alive_sarr hH) (setRow_below hR.below (hR.lt id (alive_sarr hH)).1) (by rw [setRow_size]; exact Nat.le_refl _) (fun k _ hk => setRow_other w _ k _ hk) (fun o v hv => by have := (k5 o v hv).1; cases this) ?_ ?_⟩
  · unfold Keeps
    rw [hH]
    exact ⟨ver, false, _, if_pos rfl, Nat.le_refl _, fun _ => ⟨rfl, rfl, by simp⟩⟩
  · unfold ObjOk
    rw [show ({ C with H := C.H.set id (.sarr ty sz ver false ap (es.set i (setCells c off xs))) } : Cx).H id = .sarr ty sz ver false ap (es.set i (setCells c off xs)) from if_pos rfl]
    refine ⟨g1, fun d hd => ?_, by simpa using g3, g4, _, fr, setRow_heap w _ _ _ _ _ k1, k2, by simpa [setCells_length] using k2', by simpa [setCells_length] using k3, fun i' d j p hi' hj => ?_, fun o v hv => ?_⟩
    · rcases List.mem_or_eq_of_mem_set hd with hd | hd
      · exact g2 d hd
      · subst hd; rw [setCells_length]; exact hc
    · have hget : (setCells cur.toList (i * sz + off) u.cells.toList).toArray.getD (i' * sz + j) undef =
          if i * sz + off ≤ i' * sz + j ∧ i' * sz + j < i * sz + off + u.cells.toList.length then u.cells.getD (i' * sz + j - (i * sz + off)) undef else cur.getD (i' * sz + j) undef := by
        have := setCells_get u.cells.toList cur.toList (i * sz + off) (i' * sz + j) (by simp; omega)
        simp only [Array.getD_eq_getD_getElem?, List.getElem?_toArray, this]
        split <;> simp
      rw [hget]
      simp only [Array.length_toList, ← hl, hlx]
      by_cases e : i' = i
      · subst e
        rw [List.getElem?_set_self (by omega)] at hi'
        injection hi' with hi'
        subst hi'
        rw [setCells_get _ _ _ _ (by omega)] at hj
        split at hj
        · rename_i hh
          rw [if_pos (by omega)]
          have e2 : i' * sz + j - (i' * sz + off) = j - off := by omega
          rw [e2]
          have h4 := hr (j - off) (.s p) (by rw [hcell, List.getElem?_map, hj]; rfl)
          cases h4 with
          | s _ _ h4 => exact h4
        · rename_i hh
          rw [if_neg (by omega)]
          exact k4 i' c j p hi hj
      · rw [List.getElem?_set_ne (Ne.symm e)] at hi'
        have hd := g2 d (List.mem_of_getElem? hi')
        have hjl := (List.getElem?_eq_some_iff.1 hj).1
        rw [if_neg]
        · exact k4 i' d j p hi' hj
        · rintro ⟨a1, a2⟩
          rcases Nat.lt_or_gt_of_ne e with hlt | hgt
          · have : i' * sz + sz ≤ i * sz := by rw [← Nat.succ_mul]; exact Nat.mul_le_mul_right _ hlt
            omega
          · have : i * sz + sz ≤ i' * sz := by rw [← Nat.succ_mul]; exact Nat.mul_le_mul_right _ hgt
            omega
    · have := (k5 o v hv).1
      cases this
end
end Go.Vm
end
section
set_option linter.unusedVariables false
set_option linter.unusedSimpArgs false
namespace Go.Vm
open Go.RowKit

section
variable {P : Program} {w w0 : World} {F : Fix} {C : Cx}

/-- Only what is frozen has turned. -/
structure Froze (w0 : World) (C C' : Cx) (w : World) : Prop where
  σ : C'.σ = C.σ
  rel : Rel w0 C' w
  ext : Ext C w C' w
theorem Froze.refl (h : Rel w0 C w) : Froze w0 C C w := ⟨rfl, h, Ext.refl C w⟩
theorem Froze.trans {C1 C2 : Cx} (h : Froze w0 C C1 w) (h' : Froze w0 C1 C2 w) : Froze w0 C C2 w := ⟨h'.σ.trans h.σ, h'.rel, h.ext.trans h'.ext⟩

theorem rowsOf_hsl {H : Ob} {id ver off n : Nat} {es : List (List SV)} (h : rowsOf H (.hsl id ver off n) = some es) :
    ∃ ty sz fz ap es0, H id = .sarr ty sz ver fz ap es0 ∧ off + n ≤ es0.length ∧ es = (es0.drop off).take n := by
  simp only [rowsOf] at h
  split at h
  · rename_i ty sz v fz ap es0 hH
    split at h
    · rename_i hh
      injection h with h
      obtain ⟨h1, h2⟩ := hh
      subst h1
      exact ⟨ty, sz, fz, ap, es0, hH, h2, h.symm⟩
    · cases h
  · cases h
theorem hsl_froze {id ver off n : Nat} {es : List (List SV)} {u : Value} (hR : Rel w0 C w) (h : rowsOf C.H (.hsl id ver off n) = some es) (hp : PRel C (.hsl id ver off n) u) :
    ∃ C', C'.H = freeze1 C.H id ∧ Froze w0 C C' w ∧ SRel C'.F (.slice es false) u := by
  obtain ⟨ty, sz, fz, ap, es0, hH, hle, rfl⟩ := rowsOf_hsl h
  obtain ⟨C', h1, h2, h3, h4, h5, h6⟩ := sarr_slice hR hH
  obtain ⟨g1, g2, g3, g4, _⟩ := hR.sarr _ _ _ _ _ _ _ hH
  cases hp with
  | hsl id ver off n ty' sz' cur fz' ap' es' v' hc hle' h1' he' =>
    rw [hc] at hH
    injection hH with e1 e2 e3 e4 e5 e6
    subst e1; subst e2; subst e3; subst e4; subst e5; subst e6
    obtain ⟨_, hv⟩ := he' rfl
    subst hv
    exact ⟨C', h1, ⟨h2, h4, h5⟩, h6 off n hle _ (by omega) (by omega)⟩
theorem thaw_run {p : PV} {v : SV} {H' : Ob} {u : Value} (hR : Rel w0 C w) (h : thaw C.H p = some (v, H')) (hp : PRel C p u) : ∃ C', C'.H = H' ∧ Froze w0 C C' w ∧ SRel C'.F v u := by
  cases p <;> simp only [thaw] at h <;> try (cases h; done)
  case s p =>
    injection h with h
    injection h with h1 h2
    subst h1; subst h2
    cases hp with
    | s _ _ hp => exact ⟨C, rfl, Froze.refl hR, hp⟩
  case hsl id ver off n =>
    split at h
    · rename_i es hes
      injection h with h
      injection h with h1 h2
      subst h1; subst h2
      exact hsl_froze hR hes hp
    · cases h
  case func f a b =>
    cases a with
    | cons x r => simp only at h; cases h
    | nil =>
      cases b with
      | cons x r => simp only at h; cases h
      | nil =>
        simp only at h
        injection h with h
        injection h with h1 h2
        subst h1; subst h2
        cases hp with
        | func f first cap as bs h1 h2 h3 h4 =>
          have ha : as = #[] := by simpa using h1.symm
          have hb : bs = #[] := by simpa using h3.symm
          subst ha
          subst hb
          exact ⟨C, rfl, Froze.refl hR, .func f⟩
theorem thaws_run : ∀ {l : List PV} {C : Cx} {q : List SV} {H' : Ob} {us : List Value}, Rel w0 C w → thaws C.H l = some (q, H') → l.length = us.length → (∀ (i : Nat) p, l[i]? = some p → PRel C p (us.getD i undef)) →
    q.length = us.length ∧ ∃ C', C'.H = H' ∧ Froze w0 C C' w ∧ ∀ (i : Nat) p, q[i]? = some p → SRel C'.F p (us.getD i undef)
  | [], C, q, H', us, hR, h, hl, hr => by
    simp only [thaws] at h
    injection h with h
    injection h with h1 h2
    subst h1; subst h2
    exact ⟨hl, C, rfl, Froze.refl hR, fun i p hi => by simp at hi⟩
  | p :: r, C, q, H', [], hR, h, hl, hr => by simp at hl
  | p :: r, C, q, H', u :: us, hR, h, hl, hr => by
    simp only [thaws] at h
    split at h
    · rename_i v H1 h1
      split at h
      · rename_i q' H2 h2
        injection h with h
        injection h with e1 e2
        subst e1; subst e2
        obtain ⟨C1, hC1, hf1, hv⟩ := thaw_run hR h1 (hr 0 p rfl)
        subst hC1
        have hl' : r.length = us.length := by simpa using hl
        obtain ⟨hq, C2, hC2, hf2, hs⟩ := thaws_run hf1.rel h2 hl' (fun i p hi => hf1.ext.rel (hr (i + 1) p hi))
        refine ⟨by simp [hq], C2, hC2, hf1.trans hf2, fun i p hi => ?_⟩
        cases i with
        | zero =>
          simp at hi
          subst hi
          exact hv.mono hf2.ext.F
        | succ i => exact hs i p hi
      · cases h
    · cases h

/-! ### new variables -/
theorem prel_new {nid b cap : Nat} {o : HObj} (hd : C.H nid = .dead) {p : PV} {v : Value} (h : PRel C p v) : PRel (C.new nid b cap o) p v := PRel.keep (Keeps.new hd) rfl h
theorem F_fresh (hR : Rel w0 C w) (k o : Nat) (hk : w.heap.size ≤ k) : C.F k o = none := by
  cases h : C.F k o with
  | none => rfl
  | some v =>
    have := World.block_lt_of_cell? w ⟨k, o, none⟩ (hR.cell _ _ _ h)
    simp only at this
    omega
theorem box_new {nid : Nat} {t : TypeId} {cells : List PV} {vs : Array Value} (hR : Rel w0 C w) (hd : C.H nid = .dead) (hl : vs.size = cells.length)
    (hr : ∀ (j : Nat) p, cells[j]? = some p → PRel C p (vs.getD j undef) ∧ (vs.getD j undef).oneCell' = true) (d : Nat) :
    Rel w0 (C.new nid w.heap.size 0 (.box t cells)) (World.more w (.cells vs t) d) ∧ Ext C w (C.new nid w.heap.size 0 (.box t cells)) (World.more w (.cells vs t) d) ∧
      PRel (C.new nid w.heap.size 0 (.box t cells)) (.ptr nid 0) (.pointer (some ⟨w.heap.size, 0, none⟩)) := by
  have hs : (C.new nid w.heap.size 0 (.box t cells)).σ nid = w.heap.size := if_pos rfl
  have hH : (C.new nid w.heap.size 0 (.box t cells)).H nid = .box t cells := if_pos rfl
  have hok : ObjOk (C.new nid w.heap.size 0 (.box t cells)) (World.more w (.cells vs t) d) nid := by
    unfold ObjOk
    rw [hH, hs]
    exact ⟨vs, more_new _ _ _, hl, fun j p hj => ⟨prel_new hd (hr j p hj).1, (hr j p hj).2⟩, fun o => F_fresh hR _ _ (Nat.le_refl _)⟩
  obtain ⟨h1, h2⟩ := Rel.new hR hd hok
  refine ⟨h1, h2, ?_⟩
  have := PRel.ptr (C := C.new nid w.heap.size 0 (.box t cells)) nid 0 t cells hH
  rw [hs] at this
  exact this
theorem boxO_run {nid : Nat} {t : TypeId} {x p : PV} {H' : Ob} {u : Value} (hR : Rel w0 C w) (hd : C.H nid = .dead) (h : boxO C.H nid t x = some (p, H')) (hx : PRel C x u) :
    ∃ v w' C', (Instr.box t u).run P w = .ok v w' ∧ C'.H = H' ∧ PRel C' p v ∧ Rel w0 C' w' ∧ Ext C w C' w' := by
  unfold boxO at h
  split at h
  · rename_i hc
    injection h with h
    injection h with h1 h2
    subst h1; subst h2
    obtain ⟨hl, hr⟩ := hx.cells
    have hone := cells_ok hx hc
    obtain ⟨g1, g2, g3⟩ := box_new (t := t) (vs := u.cells) hR hd hl.symm (fun j q hj => ⟨hr j q hj, (hr j q hj).one (List.all_eq_true.1 hc q (List.mem_of_getElem? hj))⟩) w.drawn
    exact ⟨_, _, _, rfl, rfl, g3, g1, g2⟩
  · cases h
theorem SRel.toP {p : SV} {v : Value} (h : SRel C.F p v) : PRel C (.s p) v := .s p v h
theorem zero_rel {t : TypeId} {y : TI} (f : TyFacts P t y) (F : Fix) : f.z.cells.size = y.size ∧ ∀ (i : Nat) p, y.zero[i]? = some p → SRel F p (f.z.cells.getD i undef) := by
  obtain ⟨h1, h2⟩ := ofScalars_rel (F := F) f.hl
  refine ⟨?_, fun i p hi => ?_⟩
  · have := f.hn
    simp at h1
    omega
  · have := h2 i p hi
    simpa [Array.getD_eq_getD_getElem?, List.getD_eq_getElem?_getD] using this
theorem allocO_run {nid : Nat} {t : TypeId} {p : PV} {H' : Ob} (hR : Rel w0 C w) (hd : C.H nid = .dead) (h : allocO P C.H nid t = some (p, H')) :
    ∃ v w' C', (Instr.alloc t true (.tuple #[])).run P w = .ok v w' ∧ C'.H = H' ∧ PRel C' p v ∧ Rel w0 C' w' ∧ Ext C w C' w' := by
  unfold allocO at h
  split at h
  · rename_i y hy
    injection h with h
    injection h with h1 h2
    subst h1; subst h2
    obtain ⟨f⟩ := ti_facts hy
    obtain ⟨hz1, hz2⟩ := zero_rel f C.F
    obtain ⟨g1, g2, g3⟩ := box_new (t := t) (cells := y.zero.map .s) (vs := f.z.cells) hR hd (by simp [hz1, f.hn]) (fun j q hj => by
      rw [List.getElem?_map] at hj
      cases hq : y.zero[j]? with
      | none => rw [hq] at hj; cases hj
      | some r =>
        rw [hq] at hj
        injection hj with hj
        subst hj
        exact ⟨(hz2 j r hq).toP, (hz2 j r hq).one⟩) w.drawn
    refine ⟨_, _, _, ?_, rfl, g3, g1, g2⟩
    simp only [Instr.alloc, Sem.run_bind, f.run_zero, Result.andThen_ok]
    rfl
  · cases h

/-! ### composite values -/
theorem fill_cells (off : Nat) : ∀ (l : List Value) (k : Nat) (cs : Array Value), (l.zipIdx k).foldl (fun cs (x : Value × Nat) => cs.setIfInBounds (off + x.2) x.1) cs = (setCells cs.toList (off + k) l).toArray
  | [], k, cs => by simp [setCells]
  | v :: r, k, cs => by
    simp only [List.zipIdx_cons, List.foldl_cons, setCells]
    rw [fill_cells off r (k + 1)]
    rw [Array.toList_setIfInBounds, Nat.add_assoc]
theorem fill_one (v : Value) (off : Nat) (cs : Array Value) : v.cells.zipIdx.foldl (fun cs (c, j) => cs.setIfInBounds (off + j) c) cs = (setCells cs.toList off v.cells.toList).toArray := by
  rw [← Array.foldl_toList, Array.toList_zipIdx]
  exact fill_cells off v.cells.toList 0 cs
/-- A list of places and values. -/
def PartsRel (C : Cx) (ps : List (Nat × PV)) (us : List (Nat × Value)) : Prop := ps.length = us.length ∧ ∀ (i : Nat) k p, ps[i]? = some (k, p) → ∃ u, us[i]? = some (k, u) ∧ PRel C p u
theorem PartsRel.tail {x : Nat × PV} {ps : List (Nat × PV)} {y : Nat × Value} {us : List (Nat × Value)} (h : PartsRel C (x :: ps) (y :: us)) : PartsRel C ps us :=
  ⟨by simpa using h.1, fun i k p hi => h.2 (i + 1) k p hi⟩
theorem PartsRel.head {k : Nat} {p : PV} {ps : List (Nat × PV)} {y : Nat × Value} {us : List (Nat × Value)} (h : PartsRel C ((k, p) :: ps) (y :: us)) : ∃ u, y = (k, u) ∧ PRel C p u := by
  obtain ⟨u, h1, h2⟩ := h.2 0 k p rfl
  simp at h1
  exact ⟨u, h1, h2⟩
theorem buildParts_run {t : TypeId} {fields : Array Field} (hu : P.underlying t = some (.struct fields)) {place : Nat → Option (Nat × Nat)}
    (hpl : ∀ (i : Nat) o ft y, fo P t i = some (o, ft) → ti P ft = some y → place i = some (o, y.size)) :
    ∀ {ps : List (Nat × PV)} {us : List (Nat × Value)} {c q : List PV} {cs : Array Value}, buildParts P t c ps = some q → PartsRel C ps us → c.length = cs.size → (∀ (i : Nat) p, c[i]? = some p → PRel C p (cs.getD i undef)) →
      ∃ cs', Instr.fill place cs us = some cs' ∧ q.length = cs'.size ∧ ∀ (i : Nat) p, q[i]? = some p → PRel C p (cs'.getD i undef)
  | [], us, c, q, cs, h, hps, hl, hr => by
    simp only [buildParts] at h
    injection h with h
    subst h
    have : us = [] := List.eq_nil_of_length_eq_zero hps.1.symm
    subst this
    exact ⟨cs, rfl, hl, hr⟩
  | (k, x) :: ps, [], c, q, cs, h, hps, hl, hr => by cases hps.1
  | (k, x) :: ps, y :: us, c, q, cs, h, hps, hl, hr => by
    simp only [buildParts] at h
    split at h
    · rename_i o ft hf
      split at h
      · rename_i ty hy
        split at h
        · rename_i hh
          obtain ⟨u, rfl, hx⟩ := hps.head
          obtain ⟨hxl, hxr⟩ := hx.cells
          have := buildParts_run hu hpl (cs := (setCells cs.toList o u.cells.toList).toArray) h hps.tail (by simp [setCells_length, hl]) (fun i p hi => by
            rw [setCells_get _ _ _ _ (by omega)] at hi
            have hget : (setCells cs.toList o u.cells.toList).toArray.getD i undef = if o ≤ i ∧ i < o + u.cells.toList.length then u.cells.getD (i - o) undef else cs.getD i undef := by
              have := setCells_get u.cells.toList cs.toList o i (by simp; omega)
              simp only [Array.getD_eq_getD_getElem?, List.getElem?_toArray, this]
              split <;> simp
            rw [hget]
            simp only [Array.length_toList, ← hxl]
            split at hi
            · rename_i hi2; rw [if_pos hi2]; exact hxr _ _ hi
            · rename_i hi2; rw [if_neg hi2]; exact hr i p hi)
          obtain ⟨cs', h1, h2, h3⟩ := this
          refine ⟨cs', ?_, h2, h3⟩
          simp only [Instr.fill, hpl k o ft ty hf hy]
          rw [if_neg (by simp; omega)]
          rw [fill_one]
          exact h1
        · cases h
      · cases h
    · cases h
theorem run_mapM_list {α β : Type} (f : α → Sem β) (g : α → β) (w : World) : ∀ (l : List α), (∀ x, x ∈ l → (f x).run P w = .ok (g x) w) → (l.mapM f).run P w = .ok (l.map g) w
  | [], _ => rfl
  | x :: r, h => by
    simp only [List.mapM_cons, Sem.run_bind, h x (by simp), Result.andThen_ok, run_mapM_list f g w r (fun y hy => h y (by simp [hy])), List.map_cons, Sem.run_pure]
theorem run_mapM_array {α β : Type} (f : α → Sem β) (g : α → β) (w : World) (a : Array α) (h : ∀ x, x ∈ a.toList → (f x).run P w = .ok (g x) w) : (a.mapM f).run P w = .ok (a.toList.map g).toArray w := by
  rw [Array.mapM_eq_mapM_toList, Sem.run_map, run_mapM_list f g w a.toList h]
  rfl
def sizeD (P : Program) (t : TypeId) : Nat := match P.info? t with | some i => i.size | none => 0
theorem buildV_run {t : TypeId} {ps : List (Nat × PV)} {us : List (Nat × Value)} {p : PV} (h : buildV P t ps = some p) (hps : PartsRel C ps us) :
    ∃ v, (Instr.build t us.toArray).run P w = .ok v w ∧ PRel C p v := by
  unfold buildV at h
  split at h
  · rename_i y hy hst
    split at h
    · rename_i c hc
      injection h with h
      subst h
      unfold structOk at hst
      split at hst
      · rename_i fields hu
        obtain ⟨f⟩ := ti_facts hy
        obtain ⟨hz1, hz2⟩ := zero_rel f C.F
        have hmap : (fields.mapM fun x => do pure (x.offset, ← sizeOf x.type) : Sem (Array (Nat × Nat))).run P w = .ok (fields.toList.map fun x => (x.offset, sizeD P x.type)).toArray w := by
          refine run_mapM_array _ _ w fields (fun x hx => ?_)
          have := List.all_eq_true.1 hst x hx
          obtain ⟨i, hi⟩ := Option.isSome_iff_exists.1 this
          simp [sizeOf, run_typeInfo_of hi, sizeD, hi]
        obtain ⟨cs', g1, g2, g3⟩ := buildParts_run (C := C) (place := fun i => ((fields.toList.map fun x => (x.offset, sizeD P x.type)).toArray)[i]?) hu (fun i o ft ty hf hty => by
          obtain ⟨fields', x, j, hu', hx, hj, hs, ho, ht⟩ := fo_facts hf
          rw [hu] at hu'
          injection hu' with hu'
          injection hu' with hu'
          subst hu'
          obtain ⟨ff⟩ := ti_facts hty
          subst ht
          have e1 : sizeD P x.type = ty.size := by simp [sizeD, ff.hi, ff.hs]
          simp only [List.getElem?_toArray, List.getElem?_map, Array.getElem?_toList, hx, Option.map_some, ho, e1]) (cs := f.z.cells) hc hps (by simp [hz1, f.hn]) (fun i q hq => by
            rw [List.getElem?_map] at hq
            cases hr : y.zero[i]? with
            | none => rw [hr] at hq; cases hq
            | some r =>
              rw [hr] at hq
              injection hq with hq
              subst hq
              exact (hz2 i r hr).toP)
        refine ⟨.agg cs', ?_, .agg _ _ g2 g3⟩
        simp only [Instr.build, Sem.run_bind, f.run_zero, Result.andThen_ok, run_underlying hu, hmap, g1, Sem.run_pure]
      · cases hst
    · cases h
  · cases h

/-! ### a literal of a slice -/
def RowsAt (F : Fix) (size : Nat) (es : List (List SV)) (cur : Array Value) : Prop :=
  cur.size = es.length * size ∧ (∀ c, c ∈ es → c.length = size) ∧ ∀ (i : Nat) c (j : Nat) p, es[i]? = some c → c[j]? = some p → SRel F p (cur.getD (i * size + j) undef)
theorem row_in {size n i j : Nat} (hi : i < n) (hj : j < size) : i * size + j < n * size := by
  have : i * size + size ≤ n * size := by rw [← Nat.succ_mul]; exact Nat.mul_le_mul_right _ hi
  omega
theorem rowParts_run {size : Nat} : ∀ {ps : List (Nat × PV)} {us : List (Nat × Value)} {C : Cx} {es q : List (List SV)} {H' : Ob} {cur : Array Value}, Rel w0 C w → rowParts size C.H es ps = some (q, H') → PartsRel C ps us →
    RowsAt C.F size es cur → ∃ C' cur', C'.H = H' ∧ Froze w0 C C' w ∧ Instr.fill (fun i => some (i * size, size)) cur us = some cur' ∧ RowsAt C'.F size q cur'
  | [], us, C, es, q, H', cur, hR, h, hps, hrow => by
    simp only [rowParts] at h
    injection h with h
    injection h with h1 h2
    subst h1; subst h2
    have : us = [] := List.eq_nil_of_length_eq_zero hps.1.symm
    subst this
    exact ⟨C, cur, rfl, Froze.refl hR, rfl, hrow⟩
  | (k, x) :: ps, [], C, es, q, H', cur, hR, h, hps, hrow => by cases hps.1
  | (k, x) :: ps, y :: us, C, es, q, H', cur, hR, h, hps, hrow => by
    simp only [rowParts] at h
    split at h
    · rename_i v H1 hv
      split at h
      · rename_i hh
        obtain ⟨u, rfl, hx⟩ := hps.head
        obtain ⟨hxl, hxr⟩ := hx.cells
        obtain ⟨hvl, C1, hC1, hf1, hs⟩ := thaws_run (us := u.cells.toList) hR hv (by simpa using hxl) (fun i p hi => by
          have := hxr i p hi
          simpa [Array.getD_eq_getD_getElem?, List.getD_eq_getElem?_getD] using this)
        subst hC1
        obtain ⟨r1, r2, r3⟩ := hrow
        have hul : u.cells.size = size := by simp at hvl; omega
        have hin : k * size + size ≤ es.length * size := by rw [← Nat.succ_mul]; exact Nat.mul_le_mul_right _ hh.2
        have hfit : k * size + u.cells.toList.length ≤ cur.toList.length := by simp; omega
        have hrow1 : RowsAt C1.F size (es.set k v) (setCells cur.toList (k * size) u.cells.toList).toArray := by
          refine ⟨by simp [setCells_length, r1], fun c hc => ?_, fun i c j p hi hj => ?_⟩
          · rcases List.mem_or_eq_of_mem_set hc with hc | hc
            · exact r2 c hc
            · subst hc; exact hh.1
          · have hget : (setCells cur.toList (k * size) u.cells.toList).toArray.getD (i * size + j) undef =
                if k * size ≤ i * size + j ∧ i * size + j < k * size + u.cells.toList.length then u.cells.getD (i * size + j - k * size) undef else cur.getD (i * size + j) undef := by
              have := setCells_get u.cells.toList cur.toList (k * size) (i * size + j) hfit
              simp only [Array.getD_eq_getD_getElem?, List.getElem?_toArray, this]
              split <;> simp
            rw [hget]
            simp only [Array.length_toList, hul]
            by_cases e : i = k
            · subst e
              rw [List.getElem?_set_self hh.2] at hi
              injection hi with hi
              subst hi
              have hjl := (List.getElem?_eq_some_iff.1 hj).1
              rw [if_pos (by omega)]
              have e2 : i * size + j - i * size = j := by omega
              rw [e2]
              have := hs j p hj
              simpa [Array.getD_eq_getD_getElem?, List.getD_eq_getElem?_getD] using this
            · rw [List.getElem?_set_ne (Ne.symm e)] at hi
              have hcl := r2 c (List.mem_of_getElem? hi)
              have hjl := (List.getElem?_eq_some_iff.1 hj).1
              rw [if_neg]
              · exact (r3 i c j p hi hj).mono hf1.ext.F
              · rintro ⟨a1, a2⟩
                rcases Nat.lt_or_gt_of_ne e with hlt | hgt
                · have : i * size + size ≤ k * size := by rw [← Nat.succ_mul]; exact Nat.mul_le_mul_right _ hlt
                  omega
                · have : k * size + size ≤ i * size := by rw [← Nat.succ_mul]; exact Nat.mul_le_mul_right _ hgt
                  omega
        obtain ⟨C', cur', g1, g2, g3, g4⟩ := rowParts_run hf1.rel h ⟨hps.tail.1, fun i k' p hi => by
          obtain ⟨u', hu1, hu2⟩ := hps.tail.2 i k' p hi
          exact ⟨u', hu1, hf1.ext.rel hu2⟩⟩ hrow1
        refine ⟨C', cur', g1, hf1.trans g2, ?_, g4⟩
        simp only [Instr.fill]
        rw [if_neg (by simp at hfit ⊢; omega), fill_one]
        exact g3
      · cases h
    · cases h
/-- A block is laid and at once held fast. -/
theorem fix_new {es : List (List SV)} {size : Nat} {cur : Array Value} (hR : Rel w0 C w) (hrow : RowsAt C.F size es cur) (hle : es.length ≤ maxLen) (t : TypeId) (d : Nat) :
    ∃ C', C'.H = C.H ∧ Rel w0 C' (World.more w (.cells cur t) d) ∧ Ext C w C' (World.more w (.cells cur t) d) ∧ SRel C'.F (.slice es true) (.slice (some ⟨w.heap.size, 0, none⟩) es.length es.length) := by
  obtain ⟨r1, r2, r3⟩ := hrow
  let C' : Cx := { C with F := C.F.join (rowF w.heap.size size es.length cur) }
  have hF : ∀ b o v, C.F b o = some v → C'.F b o = some v := fun b o v h => Fix.join_left h
  have hne : ∀ b o, b ≠ w.heap.size → C'.F b o = C.F b o := by
    intro b o hb
    show Fix.join _ _ _ _ = _
    unfold Fix.join
    cases hv : C.F b o with
    | none => simp [rowF, hb]
    | some v => rfl
  have hnew : ∀ o, o < es.length * size → C'.F w.heap.size o = some (cur.getD o undef) := by
    intro o ho
    show Fix.join _ _ _ _ = _
    unfold Fix.join
    rw [F_fresh hR _ _ (Nat.le_refl _)]
    simp [rowF, ho]
  have hk : ∀ j, Keeps C C' j := fun j => Keeps.refl C j
  refine ⟨C', rfl, Rel.ofObj (more_below hR.below _ d) (fun b o v hv => ?_) (fun id ha => ?_) hR.inj (fun id => ?_), ⟨hF, hk, fun b hb _ => more_old w _ d b hb, fun id ha => .inl ⟨id, ha, rfl⟩, by rw [more_size]; omega, fun b o v hv => by
      by_cases hb : b = w.heap.size
      · exact .inr (.inl (by omega))
      · rw [hne b o hb] at hv
        exact .inl hv⟩, ?_⟩
  · by_cases hb : b = w.heap.size
    · subst hb
      have hv' : Fix.join C.F (rowF w.heap.size size es.length cur) w.heap.size o = some v := hv
      unfold Fix.join at hv'
      rw [F_fresh hR _ _ (Nat.le_refl _)] at hv'
      simp only [rowF] at hv'
      split at hv'
      · rename_i hh
        injection hv' with hv'
        subst hv'
        simp [World.cell?, more_new, Array.getD_eq_getD_getElem?, show o < cur.size by omega]
      · cases hv'
    · rw [hne b o hb] at hv
      exact more_cell (hR.cell b o v hv) _ d
  · have := hR.lt id ha
    rw [more_size]
    exact ⟨this.1, by show C.σ id < _; omega⟩
  · by_cases ha : (C.H id).alive = true
    · have := (hR.lt id ha).2
      exact (hR.objOk id).move rfl rfl rfl (more_old w _ d _ this) hF (fun o => hne _ _ (by omega)) hk
    · have hd : C.H id = .dead := by
        cases hb : C.H id <;> rw [hb] at ha <;> first | rfl | exact absurd rfl ha
      unfold ObjOk
      rw [show C'.H id = .dead from hd]
      trivial
  · refine .slice es true ⟨w.heap.size, 0, none⟩ es.length size (fun i j => cur.getD (i * size + j) undef) r2 (fun _ => rfl) (Nat.le_refl _) hle (fun _ => rfl) (fun i c j p hi hj => ?_) (fun i c j p hi hj => (r3 i c j p hi hj).mono hF)
    have h1 := (List.getElem?_eq_some_iff.1 hi).1
    have h2 := (List.getElem?_eq_some_iff.1 hj).1
    have h3 := r2 c (List.mem_of_getElem? hi)
    show C'.F w.heap.size (0 + (i * size + j)) = _
    rw [Nat.zero_add]
    exact hnew _ (row_in h1 (by omega))
theorem zeros_row {t : TypeId} {y : TI} (f : TyFacts P t y) (hs : 0 < y.size) (F : Fix) (n : Nat) :
    RowsAt F y.size (List.replicate n y.zero) ((Array.range (n * y.size)).map (f.z.cells[· % f.z.cells.size]!)) := by
  obtain ⟨hz1, hz2⟩ := zero_rel f F
  refine ⟨by simp, fun c hc => by rw [List.eq_of_mem_replicate hc]; exact f.hn, fun i c j p hi hj => ?_⟩
  obtain ⟨h1, h2⟩ := List.getElem?_eq_some_iff.1 hi
  simp at h1 h2
  subst h2
  have hjl := (List.getElem?_eq_some_iff.1 hj).1
  have hlt : i * y.size + j < n * y.size := row_in h1 (by have := f.hn; omega)
  have hm : (i * y.size + j) % y.size = j := by
    rw [Nat.mul_comm, Nat.mul_add_mod]
    exact Nat.mod_eq_of_lt (by have := f.hn; omega)
  have := hz2 j p hj
  have hj2 : j < f.z.cells.size := by have := f.hn; omega
  simp only [Array.getD_eq_getD_getElem?, Array.getElem?_map, Array.getElem?_range, hlt, if_true, Option.map_some, Option.getD_some, hz1, hm, getElem!_pos, hj2]
  simpa [Array.getD_eq_getD_getElem?, hj2] using this
theorem rowParts_length {size : Nat} : ∀ {ps : List (Nat × PV)} {H H' : Ob} {es q : List (List SV)}, rowParts size H es ps = some (q, H') → q.length = es.length
  | [], H, H', es, q, h => by
    simp only [rowParts] at h
    injection h with h
    injection h with h1 h2
    subst h1
    rfl
  | (k, x) :: ps, H, H', es, q, h => by
    simp only [rowParts] at h
    split at h
    · split at h
      · rw [rowParts_length h]; simp
      · cases h
    · cases h
theorem buildSliceO_run {t : TypeId} {n : Nat} {ps : List (Nat × PV)} {us : List (Nat × Value)} {p : PV} {H' : Ob} (hR : Rel w0 C w) (h : buildSliceO P t C.H n ps = some (p, H')) (hps : PartsRel C ps us) :
    ∃ v w' C', (Instr.buildSlice t n us.toArray).run P w = .ok v w' ∧ C'.H = H' ∧ PRel C' p v ∧ Rel w0 C' w' ∧ Ext C w C' w' := by
  unfold buildSliceO at h
  split at h
  · rename_i e he
    split at h
    · rename_i y hy
      split at h
      · rename_i hh
        split at h
        · rename_i es H1 hrows
          injection h with h
          injection h with h1 h2
          subst h1; subst h2
          obtain ⟨f⟩ := ti_facts hy
          obtain ⟨C1, cur', g1, g2, g3, g4⟩ := rowParts_run hR hrows hps (zeros_row f hh.2 C.F n)
          have hlen : es.length = n := by rw [rowParts_length hrows]; simp
          have hnle : n ≤ n * y.size := Nat.le_mul_of_pos_right n hh.2
          obtain ⟨C2, k1, k2, k3, k4⟩ := fix_new g2.rel g4 (by rw [hlen]; unfold maxLen; omega) e w.drawn
          refine ⟨_, _, C2, ?_, k1.trans g1, .s _ _ k4, k2, g2.ext.trans k3⟩
          by_cases hz : n * y.size = 0
          · have hn0 : n = 0 := by omega
            subst hn0
            have hz0 : 0 * y.size = 0 := by omega
            have e0 : (Array.range 0).map (f.z.cells[· % f.z.cells.size]!) = #[] := by simp
            rw [hz0, e0] at g3
            simp only [Instr.buildSlice, Sem.run_bind, run_underlying (elemT_eq he), Result.andThen_ok, f.run_size, Sem.run_ite]
            rw [if_neg (by omega)]
            simp only [Sem.run_pure, Result.andThen_ok, hz0, if_true]
            have e1 : (Array.range 0).map ((#[] : Array Value)[· % (#[] : Array Value).size]!) = #[] := by simp
            rw [e1, g3, hlen]
            rfl
          · simp only [Instr.buildSlice, Sem.run_bind, run_underlying (elemT_eq he), Result.andThen_ok, f.run_size, Sem.run_ite]
            rw [if_neg (by omega)]
            simp only [Sem.run_pure, Result.andThen_ok, f.run_zero, hz, if_false, g3]
            rw [hlen]
            rfl
        · cases h
      · cases h
    · cases h
  · cases h
end
end Go.Vm
end
section
set_option linter.unusedVariables false
set_option linter.unusedSimpArgs false
namespace Go.Vm
open Go.RowKit

section
variable {P : Program} {w w0 : World} {F : Fix} {C : Cx}

theorem more_drawn (w : World) (o : Obj) (d : Nat) : ({ (World.more w o w.drawn) with drawn := d } : World) = World.more w o d := rfl
theorem sarr_new {nid : Nat} {ty : TypeId} {sz cap : Nat} {ap : Bool} {es : List (List SV)} {cur : Array Value} {fr : Nat × Nat} (hR : Rel w0 C w) (hd : C.H nid = .dead) (hsz : 0 < sz) (hl : ∀ c, c ∈ es → c.length = sz)
    (hle : es.length ≤ cap) (hmax : cap ≤ maxLen) (hcur : cur.size = cap * sz) (hap : ap = true → fr = (0, 0)) (hfr : fr = (0, 0) ∨ cur.size ≤ fr.1)
    (hr : ∀ (i : Nat) c (j : Nat) p, es[i]? = some c → c[j]? = some p → SRel C.F p (cur.getD (i * sz + j) undef)) (d : Nat) :
    Rel w0 (C.new nid w.heap.size cap (.sarr ty sz 0 false ap es)) (World.more w (.cells cur ty fr) d) ∧ Ext C w (C.new nid w.heap.size cap (.sarr ty sz 0 false ap es)) (World.more w (.cells cur ty fr) d) ∧
      PRel (C.new nid w.heap.size cap (.sarr ty sz 0 false ap es)) (.hsl nid 0 0 es.length) (.slice (some ⟨w.heap.size, 0, none⟩) es.length cap) := by
  have hs : (C.new nid w.heap.size cap (.sarr ty sz 0 false ap es)).σ nid = w.heap.size := if_pos rfl
  have hc : (C.new nid w.heap.size cap (.sarr ty sz 0 false ap es)).cap nid = cap := if_pos rfl
  have hH : (C.new nid w.heap.size cap (.sarr ty sz 0 false ap es)).H nid = .sarr ty sz 0 false ap es := if_pos rfl
  have hok : ObjOk (C.new nid w.heap.size cap (.sarr ty sz 0 false ap es)) (World.more w (.cells cur ty fr) d) nid := by
    unfold ObjOk
    rw [hH, hs, hc]
    exact ⟨hsz, hl, hle, hmax, cur, fr, more_new _ _ _, hap, hfr, hcur, hr, fun o v hv => by rw [show (C.new nid w.heap.size cap (.sarr ty sz 0 false ap es)).F = C.F from rfl, F_fresh hR _ _ (Nat.le_refl _)] at hv; cases hv⟩
  obtain ⟨h1, h2⟩ := Rel.new hR hd hok
  refine ⟨h1, h2, ?_⟩
  exact .hsl nid 0 0 es.length ty sz 0 false ap es _ hH (Nat.le_refl _) rfl (fun _ => ⟨by omega, by rw [hs, hc, Nat.zero_mul, Nat.sub_zero]⟩)
theorem zeros_upto {t : TypeId} {y : TI} (f : TyFacts P t y) (hs : 0 < y.size) (F : Fix) (n m : Nat) (hnm : n ≤ m) :
    ∀ (i : Nat) c (j : Nat) p, (List.replicate n y.zero)[i]? = some c → c[j]? = some p → SRel F p (((Array.range (m * y.size)).map (f.z.cells[· % f.z.cells.size]!)).getD (i * y.size + j) undef) := by
  intro i c j p hi hj
  have h1 := (List.getElem?_eq_some_iff.1 hi).1
  simp at h1
  refine (zeros_row f hs F m).2.2 i c j p ?_ hj
  rw [← hi, List.getElem?_replicate, List.getElem?_replicate, if_pos (by omega), if_pos h1]
theorem makeSliceO_run {t : TypeId} {nid : Nat} {l c p : PV} {H' : Ob} {ul uc : Value} (hR : Rel w0 C w) (hd : C.H nid = .dead) (h : makeSliceO P t C.H nid l c = some (p, H')) (hl : PRel C l ul) (hc : PRel C c uc) :
    ∃ v w' C', (Instr.makeSlice t ul uc).run P w = .ok v w' ∧ C'.H = H' ∧ PRel C' p v ∧ Rel w0 C' w' ∧ Ext C w C' w' := by
  unfold makeSliceO at h
  split at h
  · rename_i e k1 n k2 m he
    split at h
    · rename_i y hy
      split at h
      · rename_i hh
        obtain ⟨h0, h1, h2, h3, h4⟩ := hh
        injection h with h
        injection h with e1 e2
        subst e1; subst e2
        cases hl with
        | s _ _ hl =>
        cases hl
        cases hc with
        | s _ _ hc =>
        cases hc
        obtain ⟨f⟩ := ti_facts hy
        have wl : IntKind.i64.wrap n = n := IntWalk.i64_in n (by omega)
        have wc : IntKind.i64.wrap m = m := IntWalk.i64_in m (by omega)
        have hbig : ¬ ((y.bytes : Int) * m > 2 ^ 48) := by
          have : (y.bytes : Int) * m ≤ 65536 * 1073741824 := Int.mul_le_mul (by omega) (by omega) (by omega) (by omega)
          omega
        have hml : m.toNat ≤ maxLen := by unfold maxLen; omega
        have hnew := sarr_new (nid := nid) (ty := e) (sz := y.size) (cap := m.toNat) (ap := true) (es := List.replicate n.toNat y.zero) (fr := (0, 0))
          (cur := (Array.range (m.toNat * y.size)).map (f.z.cells[· % f.z.cells.size]!)) hR hd h4
          (fun c hc => by rw [List.eq_of_mem_replicate hc]; exact f.hn) (by simp; omega) hml (by simp) (fun _ => rfl) (.inl rfl) (zeros_upto f h4 C.F _ _ (by omega)) w.drawn
        rw [List.length_replicate] at hnew
        obtain ⟨g1, g2, g3⟩ := hnew
        refine ⟨_, _, _, ?_, rfl, g3, g1, g2⟩
        have hzz : (if m.toNat * y.size = 0 then Pure.pure #[] else do Pure.pure (← zeroValue e).cells : Sem (Array Value)).run P w = .ok (if m.toNat * y.size = 0 then #[] else f.z.cells) w := by
          split
          · rfl
          · simp [f.run_zero]
        simp only [Instr.makeSlice, Sem.run_bind, run_underlying (elemT_eq he), Result.andThen_ok, asInt, asIntOf, Sem.run_pure, run_typeInfo_of f.hi, f.hb, wl, wc, Sem.run_ite]
        have hcond : ¬ ((decide (m < 0) || decide ((y.bytes : Int) * m > 2 ^ 48)) = true ∨ False) := by
          simp only [Bool.or_eq_true, decide_eq_true_eq, or_false]
          omega
        rw [if_neg (by simp only [Bool.or_eq_true, decide_eq_true_eq]; omega)]
        simp only [run_askRoom, Result.andThen_ok, f.run_size, Sem.run_ite, Sem.run_pure, f.run_zero, Sem.run_bind]
        by_cases hz : m.toNat * y.size = 0
        · simp only [hz, if_true, Result.andThen_ok]
          have e0 : ∀ (g : Nat → Value), Array.map g (Array.range 0) = #[] := fun g => by simp
          rw [e0, e0]
          rfl
        · simp only [hz, if_false, Result.andThen_ok]
          rfl
      · cases h
    · cases h
  · cases h

/-! ### the rows of a value -/
def flat (n sz : Nat) (vs : Nat → Nat → Value) : List Value := (List.range (n * sz)).map fun k => vs (k / sz) (k % sz)
theorem flat_length (n sz : Nat) (vs : Nat → Nat → Value) : (flat n sz vs).length = n * sz := by simp [flat]
theorem flat_get {n sz i j : Nat} {vs : Nat → Nat → Value} (hi : i < n) (hj : j < sz) : (flat n sz vs)[i * sz + j]? = some (vs i j) := by
  have hlt := row_in hi hj
  have h1 : (i * sz + j) / sz = i := by
    rw [Nat.mul_comm, Nat.mul_add_div (by omega), Nat.div_eq_of_lt hj, Nat.add_zero]
  have h2 : (i * sz + j) % sz = j := by
    rw [Nat.mul_comm, Nat.mul_add_mod]
    exact Nat.mod_eq_of_lt hj
  simp [flat, hlt, h1, h2]
theorem flat_cases {n sz k : Nat} {vs : Nat → Nat → Value} {u : Value} (h : (flat n sz vs)[k]? = some u) : ∃ i j, i < n ∧ j < sz ∧ k = i * sz + j ∧ u = vs i j := by
  have hk := (List.getElem?_eq_some_iff.1 h).1
  rw [flat_length] at hk
  have hsz : 0 < sz := by
    rcases Nat.eq_zero_or_pos sz with e | e
    · subst e; simp at hk
    · exact e
  have hi : k / sz < n := Nat.div_lt_of_lt_mul (by rw [Nat.mul_comm]; exact hk)
  have hj : k % sz < sz := Nat.mod_lt _ hsz
  refine ⟨k / sz, k % sz, hi, hj, by rw [Nat.mul_comm]; exact (Nat.div_add_mod k sz).symm, ?_⟩
  have e : k = k / sz * sz + k % sz := by rw [Nat.mul_comm]; exact (Nat.div_add_mod k sz).symm
  have := flat_get (vs := vs) hi hj
  rw [← e, h] at this
  injection this
/-- What 'append' and 'string(..)' read of a value. -/
structure RowVals (P : Program) (C : Cx) (w : World) (u : Value) (new : List (List SV)) (sz : Nat) (vs : Nat → Nat → Value) : Prop where
  rel : ∀ (i : Nat) c (j : Nat) p, new[i]? = some c → c[j]? = some p → SRel C.F p (vs i j)
  len : ∀ w', (Builtin.lenOf u).run P w' = .ok new.length w'
  run : ∀ d, (Builtin.firstCells sz new.length u).run P { w with drawn := d } = .ok (flat new.length sz vs).toArray { w with drawn := d }
theorem rowVals {x : PV} {u : Value} {new : List (List SV)} {sz : Nat} (hR : Rel w0 C w) (h : rowsOf C.H x = some new) (hx : PRel C x u) (hsz : 0 < sz) (hl : ∀ c, c ∈ new → c.length = sz) : ∃ vs, RowVals P C w u new sz vs := by
  cases x <;> simp only [rowsOf] at h <;> try (cases h; done)
  case s p =>
    cases hx with
    | s _ _ hx =>
    cases p <;> simp only at h <;> try (cases h; done)
    case nils =>
      injection h with h
      subst h
      cases hx
      exact ⟨fun _ _ => undef, fun i c j p hi => by simp at hi, fun w' => by simp [Builtin.lenOf], fun d => by simp [Builtin.firstCells, flat]⟩
    case slice es full =>
      injection h with h
      subst h
      cases hx with
      | slice es full a cap sz' vs g1 g2 g3 g3' g4 g5 g6 =>
        refine ⟨vs, g6, fun w' => by simp [Builtin.lenOf], fun d => ?_⟩
        refine run_firstCells_some _ _ _ _ _ _ _ (flat_length _ _ _) (fun k u hk => ?_)
        obtain ⟨i, j, hi, hj, rfl, rfl⟩ := flat_cases hk
        have hmem := List.getElem_mem hi
        have hne : es ≠ [] := by intro e; subst e; simp at hi
        have e1 : sz' = sz := (g1 _ hmem).symm.trans (hl _ hmem)
        subst e1
        have hcj : j < es[i].length := by rw [g1 _ hmem]; exact hj
        have := hR.cell _ _ _ (g5 i es[i] j es[i][j] (List.getElem?_eq_getElem hi) (List.getElem?_eq_getElem hcj))
        rw [add_spot (g2 hne)]
        exact this
    case str l =>
      injection h with h
      subst h
      cases hx
      have hs1 : ∀ (i : Nat), i < l.length → sz = 1 := fun i hi => (hl [.int .u8 (l[i].toNat)] (by simp; exact ⟨l[i], List.getElem_mem hi, rfl⟩)).symm
      refine ⟨fun i _ => .int .u8 ((l.getD i 0).toNat), fun i c j p hi hj => ?_, fun w' => by simp [Builtin.lenOf, size_mk], fun d => ?_⟩
      · rw [List.getElem?_map] at hi
        cases hq : l[i]? with
        | none => rw [hq] at hi; cases hi
        | some b =>
          rw [hq] at hi
          injection hi with hi
          subst hi
          cases j with
          | zero =>
            simp at hj
            subst hj
            rw [List.getD_eq_getElem?_getD, hq]
            exact .int _ _
          | succ j => simp at hj
      · simp only [Builtin.firstCells, Sem.run_pure, List.length_map]
        congr 1
        rcases Nat.eq_zero_or_pos l.length with e | e
        · have hn : l = [] := List.eq_nil_of_length_eq_zero e
          subst hn
          simp [flat]
        · have h1 := hs1 0 e
          subst h1
          apply Array.ext'
          apply List.ext_getElem?
          intro k
          have e2 : (ByteArray.extract ⟨⟨l⟩⟩ 0 l.length).data = ⟨l⟩ := by
            rw [ByteArray.data_extract]
            apply Array.ext'
            simp
          rw [e2]
          by_cases hk : k < l.length
          · simp [flat, hk, Nat.div_one]
          · simp [flat, hk]
  case hsl id ver off n =>
    have h' : rowsOf C.H (.hsl id ver off n) = some new := by simpa only [rowsOf] using h
    obtain ⟨ty, sz', fz, ap, es0, hH, hle, rfl⟩ := rowsOf_hsl h'
    obtain ⟨g1, g2, g3, g4, cur, fr, k1, k2, k2', k3, k4, k5⟩ := hR.sarr _ _ _ _ _ _ _ hH
    cases hx with
    | hsl id ver off n ty' sz'' cur' fz' ap' es' v' hc hle' h1' he' =>
      rw [hc] at hH
      injection hH with e1 e2 e3 e4 e5 e6
      subst e1; subst e2; subst e3; subst e4; subst e5; subst e6
      obtain ⟨_, hv⟩ := he' rfl
      subst hv
      have hlen : ((es'.drop off).take n).length = n := by simp; omega
      have hget : ∀ i c, ((es'.drop off).take n)[i]? = some c → es'[off + i]? = some c := by
        intro i c hi
        rw [List.getElem?_take] at hi
        split at hi
        · rw [List.getElem?_drop] at hi; exact hi
        · cases hi
      refine ⟨fun i j => cur.getD ((off + i) * sz'' + j) undef, fun i c j p hi hj => k4 _ c j p (hget i c hi) hj, fun w' => by simp [Builtin.lenOf]; omega, fun d => ?_⟩
      refine run_firstCells_some _ _ _ _ _ _ _ (flat_length _ _ _) (fun k u hk => ?_)
      obtain ⟨i, j, hi, hj, rfl, rfl⟩ := flat_cases hk
      have hmem := List.getElem_mem hi
      have e1 : sz'' = sz := (g2 _ (List.mem_of_mem_drop (List.mem_of_mem_take hmem))).symm.trans (hl _ hmem)
      subst e1
      rw [hlen] at hi
      have hlt : (off + i) * sz'' + j < C.cap id * sz'' := row_in (by omega) hj
      rw [add_none]
      have e2 : off * sz'' + (i * sz'' + j) = (off + i) * sz'' + j := by rw [Nat.add_mul]; omega
      rw [e2]
      simp [World.cell?, k1, Array.getD_eq_getD_getElem?, show (off + i) * sz'' + j < cur.size by omega]

/-! ### append -/
theorem append_some {t t2 ty e : TypeId} {i : TypeInfo} (ht : P.underlying t = some (.slice e)) (hi : P.info? e = some i) (hd2 : (∃ e', P.underlying t2 = some (.slice e')) ∨ P.underlying t2 = some .string)
    {base : Option Addr} {n cap m : Nat} {x : Value} {news : List Value} (hlen : ∀ w', (Builtin.lenOf x).run P w' = .ok m w')
    (hrun : ∀ d, (Builtin.firstCells i.size m x).run P { w with drawn := d } = .ok news.toArray { w with drawn := d }) (hroom : n + m ≤ cap) :
    (Builtin.append_ #[t, t2] ty #[.slice base n cap, x]).run P w =
      match base with
      | none => .ok (.slice none (n + m) cap) w
      | some a => ((storeCells (a.add (n * i.size)) news).run P w).andThen fun _ w' => .ok (.slice (some a) (n + m) cap) w' := by
  have hr := hrun w.drawn
  have ew : ({ w with drawn := w.drawn } : World) = w := rfl
  rw [ew] at hr
  rcases hd2 with ⟨e', hd2⟩ | hd2 <;>
     (cases base with
       | none => simp [Builtin.append_, run_underlying ht, run_underlying hd2, sizeOf, run_typeInfo_of hi, hlen, hroom, hr]
       | some a => simp [Builtin.append_, run_underlying ht, run_underlying hd2, sizeOf, run_typeInfo_of hi, hlen, hroom, hr])
theorem append_grow {t t2 ty e : TypeId} {i : TypeInfo} {z : Value} (ht : P.underlying t = some (.slice e)) (hi : P.info? e = some i) (hz : i.zero = some z) (hd2 : (∃ e', P.underlying t2 = some (.slice e')) ∨ P.underlying t2 = some .string)
    {base : Option Addr} {n cap m : Nat} {x : Value} {olds news : List Value} (hlen : ∀ w', (Builtin.lenOf x).run P w' = .ok m w')
    (hold : ∀ d, (Builtin.firstCells i.size n (.slice base n cap)).run P { w with drawn := d } = .ok olds.toArray { w with drawn := d })
    (hrun : ∀ d, (Builtin.firstCells i.size m x).run P { w with drawn := d } = .ok news.toArray { w with drawn := d }) (hroom : cap < n + m) (hbound : n + m ≤ 1073741824) (hby : i.bytes ≤ 65536) :
    ∃ nc d, n + m ≤ nc ∧ nc ≤ maxLen ∧ (Builtin.append_ #[t, t2] ty #[.slice base n cap, x]).run P w =
      .ok (.slice (some ⟨w.heap.size, 0, none⟩) (n + m) nc) (World.more w (.cells (olds.toArray ++ news.toArray ++ Builtin.zeroCells z.cells (nc - (n + m))) e) d) := by
  refine ⟨grownCap w (n + m) cap e, w.drawn + 1, grownCap_ge w _ _ e, grownCap_le_maxLen w _ _ e (by unfold maxLen; omega), ?_⟩
  have h63 : ¬ (9223372036854775807 < ((n : Int) + (m : Int))) := by omega
  have hfit : Builtin.nextslicecap (n + m) cap * i.bytes ≤ 281474976710656 := by
    have h1 : (n + m) * i.bytes ≤ 1073741824 * 65536 := Nat.mul_le_mul hbound hby
    exact growslice_fits hroom (by omega)
  have h48 : ¬ (281474976710656 < Builtin.nextslicecap (n + m) cap * i.bytes) := by omega
  have hn : ¬ (n + m ≤ cap) := by omega
  have ho := hold (w.drawn + 1)
  have hr := hrun (w.drawn + 1)
  have ed : w.drew = { w with drawn := w.drawn + 1 } := rfl
  rw [← ed] at ho hr
  rcases hd2 with ⟨e', hd2⟩ | hd2 <;>
     (simp [Builtin.append_, run_underlying ht, run_underlying hd2, sizeOf, run_typeInfo_of hi, zeroValue, hz, hlen, hn, h63, h48, Question.forced, ho, hr, newRow, grownCap, -Array.append_assoc, -List.append_toArray]
      rfl)
theorem rows_all {new : List (List SV)} {sz : Nat} (h : new.all (fun c => decide (c.length = sz)) = true) : ∀ c, c ∈ new → c.length = sz := fun c hc => by
  have := List.all_eq_true.1 h c hc
  simpa using this
theorem flat_one {new : List (List SV)} {sz : Nat} {vs : Nat → Nat → Value} (hl : ∀ c, c ∈ new → c.length = sz) (hr : ∀ (i : Nat) c (j : Nat) p, new[i]? = some c → c[j]? = some p → SRel F p (vs i j)) : ∀ v ∈ flat new.length sz vs, v.oneCell' = true := by
  intro v hv
  obtain ⟨k, hk, e⟩ := List.mem_iff_getElem.1 hv
  obtain ⟨i, j, hi, hj, _, e2⟩ := flat_cases (List.getElem?_eq_some_iff.2 ⟨hk, e⟩)
  subst e2
  have h1 := List.getElem_mem hi
  have h2 : j < new[i].length := by rw [hl _ h1]; exact hj
  exact (hr i new[i] j new[i][j] (List.getElem?_eq_getElem hi) (List.getElem?_eq_getElem h2)).one
/-- Rows behind rows. -/
theorem flat_rows {es new : List (List SV)} {sz : Nat} {vs us : Nat → Nat → Value} (hle : ∀ c, c ∈ es → c.length = sz) (hln : ∀ c, c ∈ new → c.length = sz)
    (he : ∀ (i : Nat) c (j : Nat) p, es[i]? = some c → c[j]? = some p → SRel F p (vs i j)) (hn : ∀ (i : Nat) c (j : Nat) p, new[i]? = some c → c[j]? = some p → SRel F p (us i j)) (rest : Array Value) :
    ∀ (i : Nat) c (j : Nat) p, (es ++ new)[i]? = some c → c[j]? = some p → SRel F p (((flat es.length sz vs).toArray ++ (flat new.length sz us).toArray ++ rest).getD (i * sz + j) undef) := by
  intro i c j p hi hj
  have hjl := (List.getElem?_eq_some_iff.1 hj).1
  have hll : ((flat es.length sz vs).toArray ++ (flat new.length sz us).toArray ++ rest).getD (i * sz + j) undef = ((flat es.length sz vs) ++ (flat new.length sz us) ++ rest.toList).getD (i * sz + j) undef := by
    simp only [Array.getD_eq_getD_getElem?, List.getD_eq_getElem?_getD]
    congr 1
    rw [← Array.getElem?_toList]
    simp
  rw [hll, List.getD_eq_getElem?_getD, List.append_assoc]
  rcases Nat.lt_or_ge i es.length with h | h
  · rw [List.getElem?_append_left h] at hi
    have hc := hle c (List.mem_of_getElem? hi)
    rw [List.getElem?_append_left (by rw [flat_length]; exact row_in h (by omega)), flat_get h (by omega)]
    exact he i c j p hi hj
  · rw [List.getElem?_append_right h] at hi
    have hc := hln c (List.mem_of_getElem? hi)
    have h2 := (List.getElem?_eq_some_iff.1 hi).1
    have e1 : i * sz + j - es.length * sz = (i - es.length) * sz + j := by
      have : es.length * sz ≤ i * sz := Nat.mul_le_mul_right _ h
      rw [Nat.sub_mul]
      omega
    have e2 : es.length * sz ≤ i * sz + j := Nat.le_trans (Nat.mul_le_mul_right _ h) (Nat.le_add_right _ _)
    rw [List.getElem?_append_right (by rw [flat_length]; exact e2), flat_length, e1, List.getElem?_append_left (by rw [flat_length]; exact row_in h2 (by omega)), flat_get h2 (by omega)]
    exact hn _ c j p hi hj
end
end Go.Vm
end
section
set_option linter.unusedVariables false
set_option linter.unusedSimpArgs false
namespace Go.Vm
open Go.RowKit

section
variable {P : Program} {w w0 : World} {F : Fix} {C : Cx}

def Cx.moved (C : Cx) (id b cap : Nat) (o : HObj) : Cx := { σ := fun j => if j = id then b else C.σ j, cap := fun j => if j = id then cap else C.cap j, F := C.F, H := C.H.set id o }
theorem Rel.moved {id cap d ver : Nat} {ty sz : Nat} {fz fz' ap : Bool} {es es' : List (List SV)} {o : Obj} (hR : Rel w0 C w) (hH : C.H id = .sarr ty sz ver fz ap es)
    (hok : ObjOk (C.moved id w.heap.size cap (.sarr ty sz (ver + 1) fz' ap es')) (World.more w o d) id) :
    Rel w0 (C.moved id w.heap.size cap (.sarr ty sz (ver + 1) fz' ap es')) (World.more w o d) ∧ Ext C w (C.moved id w.heap.size cap (.sarr ty sz (ver + 1) fz' ap es')) (World.more w o d) := by
  have hne : ∀ j, j ≠ id → (C.moved id w.heap.size cap (.sarr ty sz (ver + 1) fz' ap es')).H j = C.H j ∧ (C.moved id w.heap.size cap (.sarr ty sz (ver + 1) fz' ap es')).σ j = C.σ j ∧ (C.moved id w.heap.size cap (.sarr ty sz (ver + 1) fz' ap es')).cap j = C.cap j :=
    fun j e => ⟨if_neg e, if_neg e, if_neg e⟩
  have hs : (C.moved id w.heap.size cap (.sarr ty sz (ver + 1) fz' ap es')).σ id = w.heap.size := if_pos rfl
  have hHid : (C.moved id w.heap.size cap (.sarr ty sz (ver + 1) fz' ap es')).H id = .sarr ty sz (ver + 1) fz' ap es' := if_pos rfl
  have hk : ∀ j, Keeps C (C.moved id w.heap.size cap (.sarr ty sz (ver + 1) fz' ap es')) j := by
    intro j
    by_cases e : j = id
    · subst e
      unfold Keeps
      rw [hH]
      exact ⟨ver + 1, fz', es', hHid, by omega, fun e => by omega⟩
    · obtain ⟨e1, e2, e3⟩ := hne j e
      unfold Keeps
      cases hb : C.H j with
      | dead => trivial
      | box ty cells => exact ⟨cells, e1.trans hb, e2⟩
      | sarr ty sz ver fz ap es => exact ⟨ver, fz, es, e1.trans hb, Nat.le_refl _, fun _ => ⟨e2, e3, rfl⟩⟩
      | map es => exact ⟨es, e1.trans hb, e2⟩
  have hal : (C.H id).alive = true := alive_sarr hH
  refine ⟨Rel.ofObj (more_below hR.below o d) (fun b k v hv => more_cell (hR.cell b k v hv) o d) (fun j ha => ?_) (fun i j hi hj e => ?_) (fun j => ?_), ⟨fun _ _ _ h => h, hk, fun b hb _ => more_old w o d b hb, fun j ha => ?_, by rw [more_size]; omega, fun _ _ _ h => .inl h⟩⟩
  · by_cases e : j = id
    · subst e
      rw [hs, more_size]
      exact ⟨hR.below.size, by omega⟩
    · obtain ⟨e1, e2, _⟩ := hne j e
      rw [e1] at ha
      rw [e2, more_size]
      have := hR.lt j ha
      omega
  · by_cases ei : i = id <;> by_cases ej : j = id
    · omega
    · obtain ⟨e1, e2, _⟩ := hne j ej
      subst ei
      rw [hs, e2] at e
      rw [e1] at hj
      have := (hR.lt j hj).2
      omega
    · obtain ⟨e1, e2, _⟩ := hne i ei
      subst ej
      rw [hs, e2] at e
      rw [e1] at hi
      have := (hR.lt i hi).2
      omega
    · obtain ⟨e1, e2, _⟩ := hne i ei
      obtain ⟨e1', e2', _⟩ := hne j ej
      rw [e1] at hi
      rw [e1'] at hj
      rw [e2, e2'] at e
      exact hR.inj i j hi hj e
  · by_cases e : j = id
    · subst e; exact hok
    · obtain ⟨e1, e2, e3⟩ := hne j e
      by_cases ha : (C.H j).alive = true
      · exact (hR.objOk j).move e1 e2 e3 (more_old w o d _ (hR.lt j ha).2) (fun _ _ _ h => h) (fun _ => rfl) hk
      · unfold ObjOk
        rw [e1]
        cases hb : C.H j <;> rw [hb] at ha <;> first | trivial | exact absurd rfl ha
  · by_cases e : j = id
    · subst e
      rw [hs]
      exact .inr (Nat.le_refl _)
    · obtain ⟨e1, e2, _⟩ := hne j e
      rw [e1] at ha
      exact .inl ⟨j, ha, e2⟩

theorem grown_size {n m nc sz : Nat} {z : Array Value} {a b : List Value} (ha : a.length = n * sz) (hb : b.length = m * sz) (hz : z.size = sz) (h : n + m ≤ nc) : (a.toArray ++ b.toArray ++ Builtin.zeroCells z (nc - (n + m))).size = nc * sz := by
  simp only [Array.size_append, List.size_toArray, size_zeroCells, ha, hb, hz, ← Nat.add_mul]
  congr 1
  omega
theorem firstCells_slice {n sz : Nat} {a : Addr} {cap : Nat} {vs : Nat → Nat → Value} (h : ∀ i j, i < n → j < sz → w.cell? (a.add (i * sz + j)) = some (vs i j)) (d : Nat) :
    (Builtin.firstCells sz n (.slice (some a) n cap)).run P { w with drawn := d } = .ok (flat n sz vs).toArray { w with drawn := d } := by
  refine run_firstCells_some _ _ _ _ _ _ _ (flat_length _ _ _) (fun k u hk => ?_)
  obtain ⟨i, j, hi, hj, rfl, rfl⟩ := flat_cases hk
  exact h i j hi hj
theorem nonempty_pos {α : Type} {l : List α} (h : l.isEmpty ≠ true) : 0 < l.length := by
  cases l with
  | nil => exact absurd rfl h
  | cons a l => simp

theorem appendO_run {t t2 ty : TypeId} {nid : Nat} {s x p : PV} {H' : Ob} {us ux : Value} (hR : Rel w0 C w) (hd : C.H nid = .dead) (h : appendO P t t2 C.H nid s x = some (p, H')) (hs : PRel C s us) (hx : PRel C x ux) :
    ∃ v w' C', (Builtin.append_ #[t, t2] ty #[us, ux]).run P w = .ok v w' ∧ C'.H = H' ∧ PRel C' p v ∧ Rel w0 C' w' ∧ Ext C w C' w' := by
  unfold appendO at h
  split at h
  · rename_i e new he hnew
    split at h
    · rename_i y hy
      split at h
      · rename_i hh
        obtain ⟨hall, hsz, hby, htt⟩ := hh
        have hln := rows_all hall
        obtain ⟨f⟩ := ti_facts hy
        obtain ⟨vs, hv⟩ := rowVals (P := P) hR hnew hx hsz hln
        have hu := elemT_eq he
        have hd2 : (∃ e', P.underlying t2 = some (.slice e')) ∨ P.underlying t2 = some .string := by
          rcases htt with rfl | ⟨h1, _⟩
          · exact .inl ⟨e, hu⟩
          · exact .inr (isStringT_eq h1)
        have hrun := hv.run
        have hfs : f.i.size = y.size := f.hs
        rw [← hfs] at hrun
        have hby' : f.i.bytes ≤ 65536 := by rw [f.hb]; exact hby
        have hnl : (flat new.length f.i.size vs).length = new.length * f.i.size := flat_length _ _ _
        have hzz : f.z.cells.size = f.i.size := by rw [(zero_rel f C.F).1, hfs]
        split at h
        · -- nil
          cases hs with
          | s _ _ hs =>
          cases hs
          split at h
          · rename_i hb
            split at h
            · rename_i hem
              injection h with h
              injection h with e1 e2
              subst e1; subst e2
              have hm : new.length = 0 := by simpa using hem
              have := append_some (P := P) (w := w) (ty := ty) hu f.hi hd2 (base := none) (n := 0) (cap := 0) (m := new.length) (x := ux) (news := flat new.length f.i.size vs) hv.len hrun (by omega)
              simp only [hm] at this
              exact ⟨.slice none 0 0, w, C, this, rfl, .s _ _ .nils, hR, Ext.refl C w⟩
            · rename_i hem
              injection h with h
              injection h with e1 e2
              subst e1; subst e2
              have hpos := nonempty_pos hem
              obtain ⟨nc, d, g1, g2, g3⟩ := append_grow (P := P) (w := w) (ty := ty) hu f.hi f.hz hd2 (base := none) (n := 0) (cap := 0) (m := new.length) (x := ux) (olds := []) (news := flat new.length f.i.size vs) hv.len
                (fun d => by simp [Builtin.firstCells]) hrun (by omega) (by omega) hby'
              simp only [Nat.zero_add] at g1 g3
              obtain ⟨k1, k2, k3⟩ := sarr_new (nid := nid) (ty := e) (sz := y.size) (cap := nc) (ap := true) (es := new) (fr := (0, 0))
                (cur := (([] : List Value).toArray ++ (flat new.length f.i.size vs).toArray ++ Builtin.zeroCells f.z.cells (nc - new.length))) hR hd hsz hln g1 g2
                (by have := grown_size (n := 0) (m := new.length) (nc := nc) (sz := y.size) (z := f.z.cells) (a := []) (b := flat new.length f.i.size vs) (by simp) (by rw [hnl, hfs]) (by rw [hzz, hfs]) (by omega)
                    simpa only [Nat.zero_add] using this) (fun _ => rfl) (.inl rfl)
                (by have := flat_rows (F := C.F) (es := []) (new := new) (sz := y.size) (vs := vs) (us := vs) (fun c hc => by cases hc) hln (fun i c j p hi => by simp at hi) hv.rel (Builtin.zeroCells f.z.cells (nc - new.length))
                    rw [hfs]
                    simpa [flat] using this) d
              exact ⟨_, _, _, g3, rfl, k3, k1, k2⟩
          · cases h
        · -- a slice that is only read
          rename_i es full
          split at h
          · rename_i hc
            obtain ⟨hc1, hbound⟩ := hc
            have hle := rows_all hc1
            cases hs with
            | s _ _ hs =>
            cases hs with
            | slice es full a cap sz vs' g1 g2 g3 g3' g4 g5 g6 =>
              split at h
              · rename_i hem
                injection h with h
                injection h with e1 e2
                subst e1; subst e2
                have hm : new.length = 0 := by simpa using hem
                have hnil : new = [] := List.eq_nil_of_length_eq_zero hm
                have := append_some (P := P) (w := w) (ty := ty) hu f.hi hd2 (base := some a) (n := es.length) (cap := cap) (m := new.length) (x := ux) (news := flat new.length f.i.size vs) hv.len hrun (by omega)
                subst hnil
                simp only [List.length_nil, Nat.add_zero] at this
                refine ⟨_, w, C, ?_, rfl, .s _ _ (.slice es full a cap sz vs' g1 g2 g3 g3' g4 g5 g6), hR, Ext.refl C w⟩
                rw [this]
                simp [flat, storeCells]
              · rename_i hem
                split at h
                · rename_i hfull
                  injection h with h
                  injection h with e1 e2
                  subst e1; subst e2
                  have hpos := nonempty_pos hem
                  have hcap := g4 hfull
                  have hcells : ∀ i j, i < es.length → j < f.i.size → w.cell? (a.add (i * f.i.size + j)) = some (vs' i j) := by
                    intro i j hi hj
                    have hmem := List.getElem_mem hi
                    have hne : es ≠ [] := by intro e; subst e; simp at hi
                    have e1 : sz = y.size := (g1 _ hmem).symm.trans (hle _ hmem)
                    have hjl : j < es[i].length := by rw [hle _ hmem]; omega
                    have := hR.cell _ _ _ (g5 i es[i] j es[i][j] (List.getElem?_eq_getElem hi) (List.getElem?_eq_getElem hjl))
                    rw [add_spot (g2 hne), hfs]
                    rw [e1] at this
                    exact this
                  obtain ⟨nc, d, q1, q2, q3⟩ := append_grow (P := P) (w := w) (ty := ty) hu f.hi f.hz hd2 (base := some a) (n := es.length) (cap := cap) (m := new.length) (x := ux) (olds := flat es.length f.i.size vs') (news := flat new.length f.i.size vs) hv.len
                    (firstCells_slice hcells) hrun (by omega) (by omega) hby'
                  have hlen : (es ++ new).length = es.length + new.length := by simp
                  obtain ⟨k1, k2, k3⟩ := sarr_new (nid := nid) (ty := e) (sz := y.size) (cap := nc) (ap := true) (es := es ++ new) (fr := (0, 0))
                    (cur := ((flat es.length f.i.size vs').toArray ++ (flat new.length f.i.size vs).toArray ++ Builtin.zeroCells f.z.cells (nc - (es.length + new.length)))) hR hd hsz
                    (fun c hc => by rcases List.mem_append.1 hc with hc | hc; exact hle c hc; exact hln c hc) (by rw [hlen]; exact q1) q2
                    (grown_size (by rw [flat_length, hfs]) (by rw [hnl, hfs]) (by rw [hzz, hfs]) q1) (fun _ => rfl) (.inl rfl)
                    (by rw [hfs]; exact flat_rows hle hln g6 hv.rel _) d
                  rw [hlen] at k3
                  exact ⟨_, _, _, q3, rfl, k3, k1, k2⟩
                · cases h
          · cases h
        · -- an object
          rename_i id ver off n
          split at h
          · rename_i ty' sz v fz es hH
            split at h
            · rename_i hc
              obtain ⟨hv1, hoff, hn, hsz1, hty, hbound⟩ := hc
              subst hv1; subst hoff; subst hn; subst hsz1; subst hty
              obtain ⟨g1, g2, g3, g4, cur, fr, k1, k2, k2', k3, k4, k5⟩ := hR.sarr _ _ _ _ _ _ _ hH
              cases hs with
              | hsl id ver off n ty1 sz1 cur1 fz1 ap1 es1 v1 hc hle' h1' he' =>
                rw [hc] at hH
                injection hH with e1 e2 e3 e4 e5 e6
                subst e1; subst e2; subst e3; subst e4; subst e5; subst e6
                obtain ⟨_, hv2⟩ := he' rfl
                subst hv2
                rw [Nat.zero_mul, Nat.sub_zero]
                have hfr := k2 rfl
                subst hfr
                split at h
                · rename_i hem
                  injection h with h
                  injection h with e1 e2
                  subst e1; subst e2
                  have hm : new.length = 0 := by simpa using hem
                  have hnil : new = [] := List.eq_nil_of_length_eq_zero hm
                  have := append_some (P := P) (w := w) (ty := ty) hu f.hi hd2 (base := some ⟨C.σ id, 0, none⟩) (n := es1.length) (cap := C.cap id) (m := new.length) (x := ux) (news := flat new.length f.i.size vs) hv.len hrun (by omega)
                  subst hnil
                  simp only [List.length_nil, Nat.add_zero] at this
                  refine ⟨_, w, C, ?_, rfl, .hsl id cur1 0 es1.length ty1 y.size cur1 fz1 true es1 _ hc hle' rfl (fun _ => ⟨by omega, by rw [Nat.zero_mul, Nat.sub_zero]⟩), hR, Ext.refl C w⟩
                  rw [this]
                  simp [flat, storeCells]
                · rename_i hem
                  injection h with h
                  injection h with e1 e2
                  subst e1; subst e2
                  have hpos := nonempty_pos hem
                  have hlen : (es1 ++ new).length = es1.length + new.length := by simp
                  have hlen2 : ∀ c, c ∈ es1 ++ new → c.length = y.size := fun c hc => by rcases List.mem_append.1 hc with hc | hc; exact g2 c hc; exact hln c hc
                  by_cases hroom : es1.length + new.length ≤ C.cap id
                  · have hap := append_some (P := P) (w := w) (ty := ty) hu f.hi hd2 (base := some ⟨C.σ id, 0, none⟩) (n := es1.length) (cap := C.cap id) (m := new.length) (x := ux) (news := flat new.length f.i.size vs) hv.len hrun hroom
                    have hfit : es1.length * f.i.size + (flat new.length f.i.size vs).length ≤ cur.size := by rw [hnl, k3, hfs, ← Nat.add_mul]; exact Nat.mul_le_mul_right _ hroom
                    have hst := run_storeCells_gen P (C.σ id) ty1 (0, 0) (es1.length * f.i.size) (flat new.length f.i.size vs) 0 cur w k1 hfit (.inl rfl) (by rw [hfs]; exact flat_one hln hv.rel)
                    simp only [add_none, Nat.zero_add, Nat.add_zero] at hap hst
                    rw [hst] at hap
                    simp only [Result.andThen_ok] at hap
                    have hget : ∀ k, ((setCells cur.toList (es1.length * f.i.size) (flat new.length f.i.size vs)).toArray).getD k undef =
                        if es1.length * f.i.size ≤ k ∧ k < es1.length * f.i.size + (flat new.length f.i.size vs).length then (flat new.length f.i.size vs).getD (k - es1.length * f.i.size) undef else cur.getD k undef := by
                      intro k
                      have := setCells_get (flat new.length f.i.size vs) cur.toList (es1.length * f.i.size) k (by simpa using hfit)
                      simp only [Array.getD_eq_getD_getElem?, List.getD_eq_getElem?_getD, List.getElem?_toArray, this]
                      split <;> simp
                    have hw := Rel.write (id := id) (ho := .sarr ty1 y.size (cur1 + 1) fz1 true (es1 ++ new)) (w' := w.setRow (C.σ id) (setCells cur.toList (es1.length * f.i.size) (flat new.length f.i.size vs)).toArray) hR (alive_sarr hc)
                      (setRow_below hR.below (hR.lt id (alive_sarr hc)).1) (by rw [setRow_size]; exact Nat.le_refl _) (fun k _ hk => setRow_other w _ k _ hk)
                      (fun o v hF => by
                        have hold := hR.cell _ _ _ hF
                        have ho := (k5 o v hF).2
                        have h1 : w.cell? ⟨C.σ id, o, none⟩ = cur[o]? := by simp [World.cell?, k1]
                        rw [h1] at hold
                        have h2 := setRow_heap w _ _ (setCells cur.toList (es1.length * f.i.size) (flat new.length f.i.size vs)).toArray _ _ k1
                        simp only [World.cell?, h2, Option.isSome_none, Bool.false_eq_true, if_false, List.getElem?_toArray]
                        rw [setCells_get _ _ _ _ (by simpa using hfit), if_neg (by rw [hfs]; omega), Array.getElem?_toList]
                        exact hold)
                      (by unfold Keeps; rw [hc]; exact ⟨cur1 + 1, fz1, es1 ++ new, if_pos rfl, by omega, fun e => by omega⟩)
                      (by
                        unfold ObjOk
                        rw [show ({ C with H := C.H.set id (.sarr ty1 y.size (cur1 + 1) fz1 true (es1 ++ new)) } : Cx).H id = .sarr ty1 y.size (cur1 + 1) fz1 true (es1 ++ new) from if_pos rfl]
                        refine ⟨hsz, hlen2, by rw [hlen]; exact hroom, g4, _, (0, 0), setRow_heap w _ _ _ _ _ k1, fun _ => rfl, .inl rfl, by simpa [setCells_length] using k3, fun i c j p hi hj => ?_, fun o v hF => ⟨(k5 o v hF).1, ?_⟩⟩
                        · rw [hget, hfs]
                          have hjl := (List.getElem?_eq_some_iff.1 hj).1
                          rcases Nat.lt_or_ge i es1.length with hlt | hge
                          · rw [List.getElem?_append_left hlt] at hi
                            have hcl := g2 c (List.mem_of_getElem? hi)
                            have := row_in (size := y.size) hlt (by omega : j < y.size)
                            rw [if_neg (by omega)]
                            exact k4 i c j p hi hj
                          · rw [List.getElem?_append_right hge] at hi
                            have hcl := hln c (List.mem_of_getElem? hi)
                            have h2 := (List.getElem?_eq_some_iff.1 hi).1
                            have e1 : es1.length * y.size ≤ i * y.size := Nat.mul_le_mul_right _ hge
                            have e2 : i * y.size + j - es1.length * y.size = (i - es1.length) * y.size + j := by rw [Nat.sub_mul]; omega
                            have e3 := row_in (size := y.size) h2 (by omega : j < y.size)
                            rw [flat_length, if_pos (by constructor; omega; rw [Nat.sub_mul] at e3; omega), e2, List.getD_eq_getElem?_getD, flat_get h2 (by omega)]
                            exact hv.rel _ c j p hi hj
                        · have := (k5 o v hF).2
                          rw [hlen, Nat.add_mul]
                          omega)
                    obtain ⟨w1, w2⟩ := hw
                    exact ⟨_, _, _, hap, rfl, .hsl id (cur1 + 1) 0 _ ty1 y.size (cur1 + 1) fz1 true (es1 ++ new) _ (if_pos rfl) (Nat.le_refl _) rfl (fun _ => ⟨by rw [hlen]; omega, by rw [Nat.zero_mul, Nat.sub_zero]⟩), w1, w2⟩
                  · have hcells : ∀ i j, i < es1.length → j < f.i.size → w.cell? ((⟨C.σ id, 0, none⟩ : Addr).add (i * f.i.size + j)) = some (cur.getD (i * f.i.size + j) undef) := by
                      intro i j hi hj
                      have := row_in (size := f.i.size) (n := C.cap id) (i := i) (j := j) (by omega) hj
                      rw [add_none, Nat.zero_add]
                      have hlt : i * f.i.size + j < cur.size := by rw [k3, ← hfs]; exact this
                      simp [World.cell?, k1, Array.getD_eq_getD_getElem?, hlt]
                    obtain ⟨nc, d, q1, q2, q3⟩ := append_grow (P := P) (w := w) (ty := ty) hu f.hi f.hz hd2 (base := some ⟨C.σ id, 0, none⟩) (n := es1.length) (cap := C.cap id) (m := new.length) (x := ux)
                      (olds := flat es1.length f.i.size (fun i j => cur.getD (i * f.i.size + j) undef)) (news := flat new.length f.i.size vs) hv.len (firstCells_slice hcells) hrun (by omega) hbound hby'
                    have hmv := Rel.moved (id := id) (cap := nc) (d := d) (fz' := fz1) (es' := es1 ++ new)
                      (o := .cells ((flat es1.length f.i.size (fun i j => cur.getD (i * f.i.size + j) undef)).toArray ++ (flat new.length f.i.size vs).toArray ++ Builtin.zeroCells f.z.cells (nc - (es1.length + new.length))) ty1) hR hc (by
                        unfold ObjOk
                        rw [show (C.moved id w.heap.size nc (.sarr ty1 y.size (cur1 + 1) fz1 true (es1 ++ new))).H id = .sarr ty1 y.size (cur1 + 1) fz1 true (es1 ++ new) from if_pos rfl,
                          show (C.moved id w.heap.size nc (.sarr ty1 y.size (cur1 + 1) fz1 true (es1 ++ new))).σ id = w.heap.size from if_pos rfl,
                          show (C.moved id w.heap.size nc (.sarr ty1 y.size (cur1 + 1) fz1 true (es1 ++ new))).cap id = nc from if_pos rfl]
                        refine ⟨hsz, hlen2, by rw [hlen]; exact q1, q2, _, (0, 0), more_new _ _ _, fun _ => rfl, .inl rfl, grown_size (by rw [flat_length, hfs]) (by rw [hnl, hfs]) (by rw [hzz, hfs]) q1, ?_, fun o v hF => ?_⟩
                        · rw [hfs]
                          exact flat_rows g2 hln k4 hv.rel _
                        · rw [show (C.moved id w.heap.size nc (.sarr ty1 y.size (cur1 + 1) fz1 true (es1 ++ new))).F = C.F from rfl, F_fresh hR _ _ (Nat.le_refl _)] at hF
                          cases hF)
                    obtain ⟨w1, w2⟩ := hmv
                    exact ⟨_, _, _, q3, rfl, .hsl id (cur1 + 1) 0 _ ty1 y.size (cur1 + 1) fz1 true (es1 ++ new) _ (if_pos rfl) (Nat.le_refl _) rfl (fun _ => ⟨by rw [hlen]; omega, by
                      rw [show (C.moved id w.heap.size nc (.sarr ty1 y.size (cur1 + 1) fz1 true (es1 ++ new))).σ id = w.heap.size from if_pos rfl,
                        show (C.moved id w.heap.size nc (.sarr ty1 y.size (cur1 + 1) fz1 true (es1 ++ new))).cap id = nc from if_pos rfl, Nat.zero_mul, Nat.sub_zero]⟩), w1, w2⟩
            · cases h
          · cases h
        · cases h
      · cases h
    · cases h
  · cases h
end
end Go.Vm
end
