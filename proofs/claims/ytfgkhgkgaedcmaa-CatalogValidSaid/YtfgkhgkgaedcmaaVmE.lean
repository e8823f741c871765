/- How the ties move when an object is made, frozen or written. -/
import Derived.Test.YtfgkhgkgaedcmaaVmD
set_option linter.unusedVariables false
set_option linter.unusedSimpArgs false
namespace Go.Vm
open Go.RowKit

section
variable {P : Program} {w w0 : World} {F : Fix} {C : Cx}

def ObjOk (C : Cx) (w : World) (id : Nat) : Prop :=
  match C.H id with
  | .dead => True
  | .box ty cells => ∃ vs, w.heap[C.σ id]? = some (.cells vs ty (0, 0)) ∧ vs.size = cells.length ∧
      (∀ (j : Nat) p, cells[j]? = some p → PRel C p (vs.getD j undef) ∧ (vs.getD j undef).oneCell' = true) ∧ ∀ o, C.F (C.σ id) o = none
  | .sarr ty sz ver fz ap es => 0 < sz ∧ (∀ c, c ∈ es → c.length = sz) ∧ es.length ≤ C.cap id ∧ C.cap id ≤ maxLen ∧
      ∃ cur fr, w.heap[C.σ id]? = some (.cells cur ty fr) ∧ (ap = true → fr = (0, 0)) ∧ (fr = (0, 0) ∨ cur.size ≤ fr.1) ∧ cur.size = C.cap id * sz ∧
      (∀ (i : Nat) c (j : Nat) p, es[i]? = some c → c[j]? = some p → SRel C.F p (cur.getD (i * sz + j) undef)) ∧
      (∀ o v, C.F (C.σ id) o = some v → fz = true ∧ o < es.length * sz)
  | .map es => ∃ ents clock, w.heap[C.σ id]? = some (.map ents clock) ∧ ents.size = es.length ∧
      ∀ (i : Nat) k v, es[i]? = some (k, v) → ∃ e, ents[i]? = some e ∧ SRel C.F k e.key ∧ SRel C.F v e.val
theorem Rel.objOk (h : Rel w0 C w) (id : Nat) : ObjOk C w id := by
  unfold ObjOk
  cases hb : C.H id with
  | dead => trivial
  | box ty cells => exact h.box id ty cells hb
  | sarr ty sz ver fz ap es => exact h.sarr id ty sz ver fz ap es hb
  | map es => exact h.map id es hb
theorem Rel.ofObj (hb : Below w0.heap.size w0 w) (hc : ∀ b o v, C.F b o = some v → w.cell? ⟨b, o, none⟩ = some v)
    (hl : ∀ id, (C.H id).alive = true → w0.heap.size ≤ C.σ id ∧ C.σ id < w.heap.size) (hi : ∀ i j, (C.H i).alive = true → (C.H j).alive = true → C.σ i = C.σ j → i = j)
    (ho : ∀ id, ObjOk C w id) : Rel w0 C w where
  below := hb
  cell := hc
  lt := hl
  inj := hi
  box := fun id ty cells h => by
    have := ho id
    unfold ObjOk at this
    rw [h] at this
    exact this
  sarr := fun id ty sz ver fz ap es h => by
    have := ho id
    unfold ObjOk at this
    rw [h] at this
    exact this
  map := fun id es h => by
    have := ho id
    unfold ObjOk at this
    rw [h] at this
    exact this
theorem ObjOk.move {C' : Cx} {w' : World} {id : Nat} (h : ObjOk C w id) (e1 : C'.H id = C.H id) (e2 : C'.σ id = C.σ id) (e3 : C'.cap id = C.cap id) (e4 : w'.heap[C.σ id]? = w.heap[C.σ id]?)
    (hF : ∀ b o v, C.F b o = some v → C'.F b o = some v) (hF2 : ∀ o, C'.F (C.σ id) o = C.F (C.σ id) o) (hk : ∀ id, Keeps C C' id) : ObjOk C' w' id := by
  unfold ObjOk at h ⊢
  rw [e1, e2, e3, e4]
  cases hb : C.H id with
  | dead => trivial
  | box ty cells =>
    rw [hb] at h
    obtain ⟨vs, h1, h2, h3, h4⟩ := h
    exact ⟨vs, h1, h2, fun j p hj => ⟨(h3 j p hj).1.mono hF hk, (h3 j p hj).2⟩, fun o => by rw [hF2, h4]⟩
  | sarr ty sz ver fz ap es =>
    rw [hb] at h
    obtain ⟨g1, g2, g3, g4, cur, fr, h1, h2, h2', h3, h4, h5⟩ := h
    exact ⟨g1, g2, g3, g4, cur, fr, h1, h2, h2', h3, fun i c j p hi hj => (h4 i c j p hi hj).mono hF, fun o v hv => h5 o v (by rw [← hF2]; exact hv)⟩
  | map es =>
    rw [hb] at h
    obtain ⟨ents, clock, h1, h2, h3⟩ := h
    refine ⟨ents, clock, h1, h2, fun i k v hi => ?_⟩
    obtain ⟨e, he, hk', hv⟩ := h3 i k v hi
    exact ⟨e, he, hk'.mono hF, hv.mono hF⟩

/-! ### a new object -/
def Cx.new (C : Cx) (nid b cap : Nat) (o : HObj) : Cx := { σ := fun j => if j = nid then b else C.σ j, cap := fun j => if j = nid then cap else C.cap j, F := C.F, H := C.H.set nid o }
def World.more (w : World) (o : Obj) (d : Nat) : World := { w with heap := w.heap.push o, drawn := d }
theorem more_old (w : World) (o : Obj) (d k : Nat) (h : k < w.heap.size) : (World.more w o d).heap[k]? = w.heap[k]? := by
  show (w.heap.push o)[k]? = _
  rw [Array.getElem?_push, if_neg (by omega)]
theorem more_new (w : World) (o : Obj) (d : Nat) : (World.more w o d).heap[w.heap.size]? = some o := by
  show (w.heap.push o)[w.heap.size]? = _
  simp
theorem more_size (w : World) (o : Obj) (d : Nat) : (World.more w o d).heap.size = w.heap.size + 1 := by
  show (w.heap.push o).size = _
  simp
theorem more_cell {a : Addr} {v : Value} (h : w.cell? a = some v) (o : Obj) (d : Nat) : (World.more w o d).cell? a = some v :=
  (World.cell?_of_block (more_old w o d _ (World.block_lt_of_cell? w a h))).trans h
theorem more_below (h : Below w0.heap.size w0 w) (o : Obj) (d : Nat) : Below w0.heap.size w0 (World.more w o d) :=
  ⟨h.os, h.tape, h.output, Nat.le_trans h.size (by rw [more_size]; omega), fun k hk => by rw [more_old _ _ _ _ (Nat.lt_of_lt_of_le hk h.size)]; exact h.block k hk⟩
theorem Keeps.new {nid b cap : Nat} {o : HObj} (hd : C.H nid = .dead) (id : Nat) : Keeps C (C.new nid b cap o) id := by
  by_cases e : id = nid
  · subst e
    unfold Keeps
    rw [hd]
    trivial
  · have h1 : (C.new nid b cap o).H id = C.H id := if_neg e
    have h2 : (C.new nid b cap o).σ id = C.σ id := if_neg e
    have h3 : (C.new nid b cap o).cap id = C.cap id := if_neg e
    unfold Keeps
    cases hb : C.H id with
    | dead => trivial
    | box ty cells => exact ⟨cells, h1.trans hb, h2⟩
    | sarr ty sz ver fz ap es => exact ⟨ver, fz, es, h1.trans hb, Nat.le_refl _, fun _ => ⟨h2, h3, rfl⟩⟩
    | map es => exact ⟨es, h1.trans hb, h2⟩
theorem Rel.new {nid cap d : Nat} {ho : HObj} {o : Obj} (hR : Rel w0 C w) (hd : C.H nid = .dead) (hok : ObjOk (C.new nid w.heap.size cap ho) (World.more w o d) nid) :
    Rel w0 (C.new nid w.heap.size cap ho) (World.more w o d) ∧ Ext C w (C.new nid w.heap.size cap ho) (World.more w o d) := by
  have hne : ∀ id, id ≠ nid → (C.new nid w.heap.size cap ho).H id = C.H id ∧ (C.new nid w.heap.size cap ho).σ id = C.σ id ∧ (C.new nid w.heap.size cap ho).cap id = C.cap id :=
    fun id e => ⟨if_neg e, if_neg e, if_neg e⟩
  have hs : (C.new nid w.heap.size cap ho).σ nid = w.heap.size := if_pos rfl
  refine ⟨Rel.ofObj (more_below hR.below o d) (fun b k v hv => more_cell (hR.cell b k v hv) o d) (fun id ha => ?_) (fun i j hi hj e => ?_) (fun id => ?_), ⟨fun _ _ _ h => h, Keeps.new hd, fun b hb _ => more_old w o d b hb, fun id ha => ?_, by rw [more_size]; omega, fun _ _ _ h => .inl h⟩⟩
  · by_cases e : id = nid
    · subst e
      rw [hs, more_size]
      exact ⟨hR.below.size, by omega⟩
    · obtain ⟨e1, e2, _⟩ := hne id e
      rw [e1] at ha
      rw [e2, more_size]
      have := hR.lt id ha
      omega
  · by_cases ei : i = nid <;> by_cases ej : j = nid
    · omega
    · obtain ⟨e1, e2, _⟩ := hne j ej
      subst ei
      rw [hs, e2] at e
      rw [e1] at hj
      have := (hR.lt j hj).2
      omega
    · obtain ⟨e1, e2, _⟩ := hne i ei
      subst ej
      rw [hs, e2] at e
      rw [e1] at hi
      have := (hR.lt i hi).2
      omega
    · obtain ⟨e1, e2, _⟩ := hne i ei
      obtain ⟨e1', e2', _⟩ := hne j ej
      rw [e1] at hi
      rw [e1'] at hj
      rw [e2, e2'] at e
      exact hR.inj i j hi hj e
  · by_cases e : id = nid
    · subst e; exact hok
    · obtain ⟨e1, e2, e3⟩ := hne id e
      by_cases ha : (C.H id).alive = true
      · exact (hR.objOk id).move e1 e2 e3 (more_old w o d _ (hR.lt id ha).2) (fun _ _ _ h => h) (fun _ => rfl) (Keeps.new hd)
      · unfold ObjOk
        rw [e1]
        cases hb : C.H id <;> rw [hb] at ha <;> first | trivial | exact absurd rfl ha
  · by_cases e : id = nid
    · subst e
      rw [hs]
      exact .inr (Nat.le_refl _)
    · obtain ⟨e1, e2, _⟩ := hne id e
      rw [e1] at ha
      exact .inl ⟨id, ha, e2⟩

/-! ### freezing -/
def rowF (b sz : Nat) (n : Nat) (cur : Array Value) : Fix := fun b' o => if b' = b ∧ o < n * sz then some (cur.getD o undef) else none
def Fix.join (F G : Fix) : Fix := fun b o => match F b o with
  | some v => some v
  | none => G b o
theorem Fix.join_left {F G : Fix} {b o : Nat} {v : Value} (h : F b o = some v) : (F.join G) b o = some v := by simp [Fix.join, h]
theorem sarr_slice {id ty sz ver : Nat} {fz ap : Bool} {es : List (List SV)} (hR : Rel w0 C w) (hc : C.H id = .sarr ty sz ver fz ap es) :
    ∃ C', C'.H = freeze1 C.H id ∧ C'.σ = C.σ ∧ C'.cap = C.cap ∧ Rel w0 C' w ∧ Ext C w C' w ∧
      ∀ off n, off + n ≤ es.length → ∀ c, n ≤ c → c ≤ maxLen → SRel C'.F (.slice ((es.drop off).take n) false) (.slice (some ⟨C.σ id, off * sz, none⟩) n c) := by
  obtain ⟨g1, g2, g3, g4, cur, fr, h1, h2, h2', h3, h4, h5⟩ := hR.sarr _ _ _ _ _ _ _ hc
  have hal : (C.H id).alive = true := by rw [hc]; rfl
  have hmul : es.length * sz ≤ cur.size := by rw [h3]; exact Nat.mul_le_mul_right _ g3
  have hlt : ∀ (i : Nat) (c : List SV) (j : Nat), es[i]? = some c → j < c.length → i * sz + j < es.length * sz := by
    intro i c j hi hj
    have e1 := g2 c (List.mem_of_getElem? hi)
    have e2 := (List.getElem?_eq_some_iff.1 hi).1
    have : i * sz + sz ≤ es.length * sz := by rw [← Nat.succ_mul]; exact Nat.mul_le_mul_right _ e2
    omega
  let C' : Cx := { σ := C.σ, cap := C.cap, F := C.F.join (rowF (C.σ id) sz es.length cur), H := freeze1 C.H id }
  have hF : ∀ b o v, C.F b o = some v → C'.F b o = some v := fun b o v h => Fix.join_left h
  have hFid : ∀ o, o < es.length * sz → C'.F (C.σ id) o = some (cur.getD o undef) := by
    intro o ho
    show Fix.join _ _ _ _ = _
    unfold Fix.join
    cases hv : C.F (C.σ id) o with
    | none => simp [rowF, ho]
    | some v =>
      have hcell := hR.cell _ _ _ hv
      have : w.cell? ⟨C.σ id, o, none⟩ = cur[o]? := by simp [World.cell?, h1]
      rw [this] at hcell
      simp [Array.getD_eq_getD_getElem?, hcell]
  have hFne : ∀ b o, b ≠ C.σ id → C'.F b o = C.F b o := by
    intro b o hb
    show Fix.join _ _ _ _ = _
    unfold Fix.join
    cases hv : C.F b o with
    | none => simp [rowF, hb]
    | some v => rfl
  have hFge : ∀ o v, C'.F (C.σ id) o = some v → o < es.length * sz := by
    intro o v hv
    have hv' : Fix.join C.F (rowF (C.σ id) sz es.length cur) (C.σ id) o = some v := hv
    unfold Fix.join at hv'
    cases hq : C.F (C.σ id) o with
    | none =>
      rw [hq] at hv'
      simp only [rowF] at hv'
      split at hv'
      · rename_i hh; exact hh.2
      · cases hv'
    | some u => exact (h5 o u hq).2
  have hHid : C'.H id = .sarr ty sz ver true ap es := by
    show freeze1 C.H id id = _
    unfold freeze1
    rw [hc]
    exact if_pos rfl
  have hHne : ∀ j, j ≠ id → C'.H j = C.H j := by
    intro j hj
    show freeze1 C.H id j = _
    unfold freeze1
    rw [hc]
    exact if_neg hj
  have hk : ∀ j, Keeps C C' j := by
    intro j
    by_cases e : j = id
    · subst e
      unfold Keeps
      rw [hc]
      exact ⟨ver, true, es, hHid, Nat.le_refl _, fun _ => ⟨rfl, rfl, rfl⟩⟩
    · unfold Keeps
      cases hb : C.H j with
      | dead => trivial
      | box ty cells => exact ⟨cells, (hHne j e).trans hb, rfl⟩
      | sarr ty sz ver fz ap es => exact ⟨ver, fz, es, (hHne j e).trans hb, Nat.le_refl _, fun _ => ⟨rfl, rfl, rfl⟩⟩
      | map es => exact ⟨es, (hHne j e).trans hb, rfl⟩
  have halive : ∀ j, (C'.H j).alive = (C.H j).alive := by
    intro j
    by_cases e : j = id
    · subst e; rw [hHid, hc]; rfl
    · rw [hHne j e]
  refine ⟨C', rfl, rfl, rfl, Rel.ofObj hR.below (fun b o v hv => ?_) (fun j hj => hR.lt j (by rw [← halive]; exact hj)) (fun i j hi hj e => hR.inj i j (by rw [← halive]; exact hi) (by rw [← halive]; exact hj) e) (fun j => ?_),
    ⟨hF, hk, fun _ _ _ => rfl, fun j hj => .inl ⟨j, by rw [← halive]; exact hj, rfl⟩, Nat.le_refl _, fun b o v hv => by
      by_cases hb : b = C.σ id
      · exact .inr (.inr ⟨id, hal, hb.symm⟩)
      · rw [hFne b o hb] at hv
        exact .inl hv⟩, fun off n hn c hc1 hc2 => ?_⟩
  · by_cases hb : b = C.σ id
    · subst hb
      have ho := hFge o v hv
      rw [hFid o ho] at hv
      injection hv with hv
      subst hv
      simp [World.cell?, h1, Array.getD_eq_getD_getElem?, show o < cur.size by omega]
    · rw [hFne b o hb] at hv
      exact hR.cell b o v hv
  · by_cases e : j = id
    · subst e
      unfold ObjOk
      rw [hHid]
      exact ⟨g1, g2, g3, g4, cur, fr, h1, h2, h2', h3, fun i c k p hi hk' => (h4 i c k p hi hk').mono hF, fun o v hv => ⟨rfl, hFge o v hv⟩⟩
    · by_cases ha : (C.H j).alive = true
      · refine (hR.objOk j).move (hHne j e) rfl rfl rfl hF (fun o => hFne _ _ (fun hs => e (hR.inj j id ha hal hs))) hk
      · unfold ObjOk
        rw [hHne j e]
        cases hb : C.H j <;> rw [hb] at ha <;> first | trivial | exact absurd rfl ha
  · have hlen : ((es.drop off).take n).length = n := by simp; omega
    have hget : ∀ i c, ((es.drop off).take n)[i]? = some c → es[off + i]? = some c := by
      intro i c hi
      rw [List.getElem?_take] at hi
      split at hi
      · rw [List.getElem?_drop] at hi; exact hi
      · cases hi
    have hs := SRel.slice (F := C'.F) ((es.drop off).take n) false ⟨C.σ id, off * sz, none⟩ c sz (fun i j => cur.getD ((off + i) * sz + j) undef)
      (fun c hc => g2 c (List.mem_of_mem_drop (List.mem_of_mem_take hc))) (fun _ => rfl) (by rw [hlen]; exact hc1) hc2 (fun h => by cases h)
      (fun i c j p hi hj => by
        have := hFid ((off + i) * sz + j) (hlt _ c j (hget i c hi) (List.getElem?_eq_some_iff.1 hj).1)
        show C'.F (C.σ id) (off * sz + (i * sz + j)) = _
        rw [← this, Nat.add_mul]
        congr 1
        omega)
      (fun i c j p hi hj => (h4 _ c j p (hget i c hi) hj).mono hF)
    rw [hlen] at hs
    exact hs
end
end Go.Vm
