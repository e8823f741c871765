/- Each operation of the abstract machine is what the model's own operation does: new variables, literals, slices made. -/
import Derived.Test.YtfgkhgkgaedcmaaVmF
set_option linter.unusedVariables false
set_option linter.unusedSimpArgs false
namespace Go.Vm
open Go.RowKit

section
variable {P : Program} {w w0 : World} {F : Fix} {C : Cx}

/-- Only what is frozen has turned. -/
structure Froze (w0 : World) (C C' : Cx) (w : World) : Prop where
  σ : C'.σ = C.σ
  rel : Rel w0 C' w
  ext : Ext C w C' w
theorem Froze.refl (h : Rel w0 C w) : Froze w0 C C w := ⟨rfl, h, Ext.refl C w⟩
theorem Froze.trans {C1 C2 : Cx} (h : Froze w0 C C1 w) (h' : Froze w0 C1 C2 w) : Froze w0 C C2 w := ⟨h'.σ.trans h.σ, h'.rel, h.ext.trans h'.ext⟩

theorem rowsOf_hsl {H : Ob} {id ver off n : Nat} {es : List (List SV)} (h : rowsOf H (.hsl id ver off n) = some es) :
    ∃ ty sz fz ap es0, H id = .sarr ty sz ver fz ap es0 ∧ off + n ≤ es0.length ∧ es = (es0.drop off).take n := by
  simp only [rowsOf] at h
  split at h
  · rename_i ty sz v fz ap es0 hH
    split at h
    · rename_i hh
      injection h with h
      obtain ⟨h1, h2⟩ := hh
      subst h1
      exact ⟨ty, sz, fz, ap, es0, hH, h2, h.symm⟩
    · cases h
  · cases h
theorem hsl_froze {id ver off n : Nat} {es : List (List SV)} {u : Value} (hR : Rel w0 C w) (h : rowsOf C.H (.hsl id ver off n) = some es) (hp : PRel C (.hsl id ver off n) u) :
    ∃ C', C'.H = freeze1 C.H id ∧ Froze w0 C C' w ∧ SRel C'.F (.slice es false) u := by
  obtain ⟨ty, sz, fz, ap, es0, hH, hle, rfl⟩ := rowsOf_hsl h
  obtain ⟨C', h1, h2, h3, h4, h5, h6⟩ := sarr_slice hR hH
  obtain ⟨g1, g2, g3, g4, _⟩ := hR.sarr _ _ _ _ _ _ _ hH
  cases hp with
  | hsl id ver off n ty' sz' cur fz' ap' es' v' hc hle' h1' he' =>
    rw [hc] at hH
    injection hH with e1 e2 e3 e4 e5 e6
    subst e1; subst e2; subst e3; subst e4; subst e5; subst e6
    obtain ⟨_, hv⟩ := he' rfl
    subst hv
    exact ⟨C', h1, ⟨h2, h4, h5⟩, h6 off n hle _ (by omega) (by omega)⟩
theorem thaw_run {p : PV} {v : SV} {H' : Ob} {u : Value} (hR : Rel w0 C w) (h : thaw C.H p = some (v, H')) (hp : PRel C p u) : ∃ C', C'.H = H' ∧ Froze w0 C C' w ∧ SRel C'.F v u := by
  cases p <;> simp only [thaw] at h <;> try (cases h; done)
  case s p =>
    injection h with h
    injection h with h1 h2
    subst h1; subst h2
    cases hp with
    | s _ _ hp => exact ⟨C, rfl, Froze.refl hR, hp⟩
  case hsl id ver off n =>
    split at h
    · rename_i es hes
      injection h with h
      injection h with h1 h2
      subst h1; subst h2
      exact hsl_froze hR hes hp
    · cases h
  case func f a b =>
    cases a with
    | cons x r => simp only at h; cases h
    | nil =>
      cases b with
      | cons x r => simp only at h; cases h
      | nil =>
        simp only at h
        injection h with h
        injection h with h1 h2
        subst h1; subst h2
        cases hp with
        | func f first cap as bs h1 h2 h3 h4 =>
          have ha : as = #[] := by simpa using h1.symm
          have hb : bs = #[] := by simpa using h3.symm
          subst ha
          subst hb
          exact ⟨C, rfl, Froze.refl hR, .func f⟩
theorem thaws_run : ∀ {l : List PV} {C : Cx} {q : List SV} {H' : Ob} {us : List Value}, Rel w0 C w → thaws C.H l = some (q, H') → l.length = us.length → (∀ (i : Nat) p, l[i]? = some p → PRel C p (us.getD i undef)) →
    q.length = us.length ∧ ∃ C', C'.H = H' ∧ Froze w0 C C' w ∧ ∀ (i : Nat) p, q[i]? = some p → SRel C'.F p (us.getD i undef)
  | [], C, q, H', us, hR, h, hl, hr => by
    simp only [thaws] at h
    injection h with h
    injection h with h1 h2
    subst h1; subst h2
    exact ⟨hl, C, rfl, Froze.refl hR, fun i p hi => by simp at hi⟩
  | p :: r, C, q, H', [], hR, h, hl, hr => by simp at hl
  | p :: r, C, q, H', u :: us, hR, h, hl, hr => by
    simp only [thaws] at h
    split at h
    · rename_i v H1 h1
      split at h
      · rename_i q' H2 h2
        injection h with h
        injection h with e1 e2
        subst e1; subst e2
        obtain ⟨C1, hC1, hf1, hv⟩ := thaw_run hR h1 (hr 0 p rfl)
        subst hC1
        have hl' : r.length = us.length := by simpa using hl
        obtain ⟨hq, C2, hC2, hf2, hs⟩ := thaws_run hf1.rel h2 hl' (fun i p hi => hf1.ext.rel (hr (i + 1) p hi))
        refine ⟨by simp [hq], C2, hC2, hf1.trans hf2, fun i p hi => ?_⟩
        cases i with
        | zero =>
          simp at hi
          subst hi
          exact hv.mono hf2.ext.F
        | succ i => exact hs i p hi
      · cases h
    · cases h

/-! ### new variables -/
theorem prel_new {nid b cap : Nat} {o : HObj} (hd : C.H nid = .dead) {p : PV} {v : Value} (h : PRel C p v) : PRel (C.new nid b cap o) p v := PRel.keep (Keeps.new hd) rfl h
theorem F_fresh (hR : Rel w0 C w) (k o : Nat) (hk : w.heap.size ≤ k) : C.F k o = none := by
  cases h : C.F k o with
  | none => rfl
  | some v =>
    have := World.block_lt_of_cell? w ⟨k, o, none⟩ (hR.cell _ _ _ h)
    simp only at this
    omega
theorem box_new {nid : Nat} {t : TypeId} {cells : List PV} {vs : Array Value} (hR : Rel w0 C w) (hd : C.H nid = .dead) (hl : vs.size = cells.length)
    (hr : ∀ (j : Nat) p, cells[j]? = some p → PRel C p (vs.getD j undef) ∧ (vs.getD j undef).oneCell' = true) (d : Nat) :
    Rel w0 (C.new nid w.heap.size 0 (.box t cells)) (World.more w (.cells vs t) d) ∧ Ext C w (C.new nid w.heap.size 0 (.box t cells)) (World.more w (.cells vs t) d) ∧
      PRel (C.new nid w.heap.size 0 (.box t cells)) (.ptr nid 0) (.pointer (some ⟨w.heap.size, 0, none⟩)) := by
  have hs : (C.new nid w.heap.size 0 (.box t cells)).σ nid = w.heap.size := if_pos rfl
  have hH : (C.new nid w.heap.size 0 (.box t cells)).H nid = .box t cells := if_pos rfl
  have hok : ObjOk (C.new nid w.heap.size 0 (.box t cells)) (World.more w (.cells vs t) d) nid := by
    unfold ObjOk
    rw [hH, hs]
    exact ⟨vs, more_new _ _ _, hl, fun j p hj => ⟨prel_new hd (hr j p hj).1, (hr j p hj).2⟩, fun o => F_fresh hR _ _ (Nat.le_refl _)⟩
  obtain ⟨h1, h2⟩ := Rel.new hR hd hok
  refine ⟨h1, h2, ?_⟩
  have := PRel.ptr (C := C.new nid w.heap.size 0 (.box t cells)) nid 0 t cells hH
  rw [hs] at this
  exact this
theorem boxO_run {nid : Nat} {t : TypeId} {x p : PV} {H' : Ob} {u : Value} (hR : Rel w0 C w) (hd : C.H nid = .dead) (h : boxO C.H nid t x = some (p, H')) (hx : PRel C x u) :
    ∃ v w' C', (Instr.box t u).run P w = .ok v w' ∧ C'.H = H' ∧ PRel C' p v ∧ Rel w0 C' w' ∧ Ext C w C' w' := by
  unfold boxO at h
  split at h
  · rename_i hc
    injection h with h
    injection h with h1 h2
    subst h1; subst h2
    obtain ⟨hl, hr⟩ := hx.cells
    have hone := cells_ok hx hc
    obtain ⟨g1, g2, g3⟩ := box_new (t := t) (vs := u.cells) hR hd hl.symm (fun j q hj => ⟨hr j q hj, (hr j q hj).one (List.all_eq_true.1 hc q (List.mem_of_getElem? hj))⟩) w.drawn
    exact ⟨_, _, _, rfl, rfl, g3, g1, g2⟩
  · cases h
theorem SRel.toP {p : SV} {v : Value} (h : SRel C.F p v) : PRel C (.s p) v := .s p v h
theorem zero_rel {t : TypeId} {y : TI} (f : TyFacts P t y) (F : Fix) : f.z.cells.size = y.size ∧ ∀ (i : Nat) p, y.zero[i]? = some p → SRel F p (f.z.cells.getD i undef) := by
  obtain ⟨h1, h2⟩ := ofScalars_rel (F := F) f.hl
  refine ⟨?_, fun i p hi => ?_⟩
  · have := f.hn
    simp at h1
    omega
  · have := h2 i p hi
    simpa [Array.getD_eq_getD_getElem?, List.getD_eq_getElem?_getD] using this
theorem allocO_run {nid : Nat} {t : TypeId} {p : PV} {H' : Ob} (hR : Rel w0 C w) (hd : C.H nid = .dead) (h : allocO P C.H nid t = some (p, H')) :
    ∃ v w' C', (Instr.alloc t true (.tuple #[])).run P w = .ok v w' ∧ C'.H = H' ∧ PRel C' p v ∧ Rel w0 C' w' ∧ Ext C w C' w' := by
  unfold allocO at h
  split at h
  · rename_i y hy
    injection h with h
    injection h with h1 h2
    subst h1; subst h2
    obtain ⟨f⟩ := ti_facts hy
    obtain ⟨hz1, hz2⟩ := zero_rel f C.F
    obtain ⟨g1, g2, g3⟩ := box_new (t := t) (cells := y.zero.map .s) (vs := f.z.cells) hR hd (by simp [hz1, f.hn]) (fun j q hj => by
      rw [List.getElem?_map] at hj
      cases hq : y.zero[j]? with
      | none => rw [hq] at hj; cases hj
      | some r =>
        rw [hq] at hj
        injection hj with hj
        subst hj
        exact ⟨(hz2 j r hq).toP, (hz2 j r hq).one⟩) w.drawn
    refine ⟨_, _, _, ?_, rfl, g3, g1, g2⟩
    simp only [Instr.alloc, Sem.run_bind, f.run_zero, Result.andThen_ok]
    rfl
  · cases h

/-! ### composite values -/
theorem fill_cells (off : Nat) : ∀ (l : List Value) (k : Nat) (cs : Array Value), (l.zipIdx k).foldl (fun cs (x : Value × Nat) => cs.setIfInBounds (off + x.2) x.1) cs = (setCells cs.toList (off + k) l).toArray
  | [], k, cs => by simp [setCells]
  | v :: r, k, cs => by
    simp only [List.zipIdx_cons, List.foldl_cons, setCells]
    rw [fill_cells off r (k + 1)]
    rw [Array.toList_setIfInBounds, Nat.add_assoc]
theorem fill_one (v : Value) (off : Nat) (cs : Array Value) : v.cells.zipIdx.foldl (fun cs (c, j) => cs.setIfInBounds (off + j) c) cs = (setCells cs.toList off v.cells.toList).toArray := by
  rw [← Array.foldl_toList, Array.toList_zipIdx]
  exact fill_cells off v.cells.toList 0 cs
/-- A list of places and values. -/
def PartsRel (C : Cx) (ps : List (Nat × PV)) (us : List (Nat × Value)) : Prop := ps.length = us.length ∧ ∀ (i : Nat) k p, ps[i]? = some (k, p) → ∃ u, us[i]? = some (k, u) ∧ PRel C p u
theorem PartsRel.tail {x : Nat × PV} {ps : List (Nat × PV)} {y : Nat × Value} {us : List (Nat × Value)} (h : PartsRel C (x :: ps) (y :: us)) : PartsRel C ps us :=
  ⟨by simpa using h.1, fun i k p hi => h.2 (i + 1) k p hi⟩
theorem PartsRel.head {k : Nat} {p : PV} {ps : List (Nat × PV)} {y : Nat × Value} {us : List (Nat × Value)} (h : PartsRel C ((k, p) :: ps) (y :: us)) : ∃ u, y = (k, u) ∧ PRel C p u := by
  obtain ⟨u, h1, h2⟩ := h.2 0 k p rfl
  simp at h1
  exact ⟨u, h1, h2⟩
theorem buildParts_run {t : TypeId} {fields : Array Field} (hu : P.underlying t = some (.struct fields)) {place : Nat → Option (Nat × Nat)}
    (hpl : ∀ (i : Nat) o ft y, fo P t i = some (o, ft) → ti P ft = some y → place i = some (o, y.size)) :
    ∀ {ps : List (Nat × PV)} {us : List (Nat × Value)} {c q : List PV} {cs : Array Value}, buildParts P t c ps = some q → PartsRel C ps us → c.length = cs.size → (∀ (i : Nat) p, c[i]? = some p → PRel C p (cs.getD i undef)) →
      ∃ cs', Instr.fill place cs us = some cs' ∧ q.length = cs'.size ∧ ∀ (i : Nat) p, q[i]? = some p → PRel C p (cs'.getD i undef)
  | [], us, c, q, cs, h, hps, hl, hr => by
    simp only [buildParts] at h
    injection h with h
    subst h
    have : us = [] := List.eq_nil_of_length_eq_zero hps.1.symm
    subst this
    exact ⟨cs, rfl, hl, hr⟩
  | (k, x) :: ps, [], c, q, cs, h, hps, hl, hr => by cases hps.1
  | (k, x) :: ps, y :: us, c, q, cs, h, hps, hl, hr => by
    simp only [buildParts] at h
    split at h
    · rename_i o ft hf
      split at h
      · rename_i ty hy
        split at h
        · rename_i hh
          obtain ⟨u, rfl, hx⟩ := hps.head
          obtain ⟨hxl, hxr⟩ := hx.cells
          have := buildParts_run hu hpl (cs := (setCells cs.toList o u.cells.toList).toArray) h hps.tail (by simp [setCells_length, hl]) (fun i p hi => by
            rw [setCells_get _ _ _ _ (by omega)] at hi
            have hget : (setCells cs.toList o u.cells.toList).toArray.getD i undef = if o ≤ i ∧ i < o + u.cells.toList.length then u.cells.getD (i - o) undef else cs.getD i undef := by
              have := setCells_get u.cells.toList cs.toList o i (by simp; omega)
              simp only [Array.getD_eq_getD_getElem?, List.getElem?_toArray, this]
              split <;> simp
            rw [hget]
            simp only [Array.length_toList, ← hxl]
            split at hi
            · rename_i hi2; rw [if_pos hi2]; exact hxr _ _ hi
            · rename_i hi2; rw [if_neg hi2]; exact hr i p hi)
          obtain ⟨cs', h1, h2, h3⟩ := this
          refine ⟨cs', ?_, h2, h3⟩
          simp only [Instr.fill, hpl k o ft ty hf hy]
          rw [if_neg (by simp; omega)]
          rw [fill_one]
          exact h1
        · cases h
      · cases h
    · cases h
theorem run_mapM_list {α β : Type} (f : α → Sem β) (g : α → β) (w : World) : ∀ (l : List α), (∀ x, x ∈ l → (f x).run P w = .ok (g x) w) → (l.mapM f).run P w = .ok (l.map g) w
  | [], _ => rfl
  | x :: r, h => by
    simp only [List.mapM_cons, Sem.run_bind, h x (by simp), Result.andThen_ok, run_mapM_list f g w r (fun y hy => h y (by simp [hy])), List.map_cons, Sem.run_pure]
theorem run_mapM_array {α β : Type} (f : α → Sem β) (g : α → β) (w : World) (a : Array α) (h : ∀ x, x ∈ a.toList → (f x).run P w = .ok (g x) w) : (a.mapM f).run P w = .ok (a.toList.map g).toArray w := by
  rw [Array.mapM_eq_mapM_toList, Sem.run_map, run_mapM_list f g w a.toList h]
  rfl
def sizeD (P : Program) (t : TypeId) : Nat := match P.info? t with | some i => i.size | none => 0
theorem buildV_run {t : TypeId} {ps : List (Nat × PV)} {us : List (Nat × Value)} {p : PV} (h : buildV P t ps = some p) (hps : PartsRel C ps us) :
    ∃ v, (Instr.build t us.toArray).run P w = .ok v w ∧ PRel C p v := by
  unfold buildV at h
  split at h
  · rename_i y hy hst
    split at h
    · rename_i c hc
      injection h with h
      subst h
      unfold structOk at hst
      split at hst
      · rename_i fields hu
        obtain ⟨f⟩ := ti_facts hy
        obtain ⟨hz1, hz2⟩ := zero_rel f C.F
        have hmap : (fields.mapM fun x => do pure (x.offset, ← sizeOf x.type) : Sem (Array (Nat × Nat))).run P w = .ok (fields.toList.map fun x => (x.offset, sizeD P x.type)).toArray w := by
          refine run_mapM_array _ _ w fields (fun x hx => ?_)
          have := List.all_eq_true.1 hst x hx
          obtain ⟨i, hi⟩ := Option.isSome_iff_exists.1 this
          simp [sizeOf, run_typeInfo_of hi, sizeD, hi]
        obtain ⟨cs', g1, g2, g3⟩ := buildParts_run (C := C) (place := fun i => ((fields.toList.map fun x => (x.offset, sizeD P x.type)).toArray)[i]?) hu (fun i o ft ty hf hty => by
          obtain ⟨fields', x, j, hu', hx, hj, hs, ho, ht⟩ := fo_facts hf
          rw [hu] at hu'
          injection hu' with hu'
          injection hu' with hu'
          subst hu'
          obtain ⟨ff⟩ := ti_facts hty
          subst ht
          have e1 : sizeD P x.type = ty.size := by simp [sizeD, ff.hi, ff.hs]
          simp only [List.getElem?_toArray, List.getElem?_map, Array.getElem?_toList, hx, Option.map_some, ho, e1]) (cs := f.z.cells) hc hps (by simp [hz1, f.hn]) (fun i q hq => by
            rw [List.getElem?_map] at hq
            cases hr : y.zero[i]? with
            | none => rw [hr] at hq; cases hq
            | some r =>
              rw [hr] at hq
              injection hq with hq
              subst hq
              exact (hz2 i r hr).toP)
        refine ⟨.agg cs', ?_, .agg _ _ g2 g3⟩
        simp only [Instr.build, Sem.run_bind, f.run_zero, Result.andThen_ok, run_underlying hu, hmap, g1, Sem.run_pure]
      · cases hst
    · cases h
  · cases h

/-! ### a literal of a slice -/
def RowsAt (F : Fix) (size : Nat) (es : List (List SV)) (cur : Array Value) : Prop :=
  cur.size = es.length * size ∧ (∀ c, c ∈ es → c.length = size) ∧ ∀ (i : Nat) c (j : Nat) p, es[i]? = some c → c[j]? = some p → SRel F p (cur.getD (i * size + j) undef)
theorem row_in {size n i j : Nat} (hi : i < n) (hj : j < size) : i * size + j < n * size := by
  have : i * size + size ≤ n * size := by rw [← Nat.succ_mul]; exact Nat.mul_le_mul_right _ hi
  omega
theorem rowParts_run {size : Nat} : ∀ {ps : List (Nat × PV)} {us : List (Nat × Value)} {C : Cx} {es q : List (List SV)} {H' : Ob} {cur : Array Value}, Rel w0 C w → rowParts size C.H es ps = some (q, H') → PartsRel C ps us →
    RowsAt C.F size es cur → ∃ C' cur', C'.H = H' ∧ Froze w0 C C' w ∧ Instr.fill (fun i => some (i * size, size)) cur us = some cur' ∧ RowsAt C'.F size q cur'
  | [], us, C, es, q, H', cur, hR, h, hps, hrow => by
    simp only [rowParts] at h
    injection h with h
    injection h with h1 h2
    subst h1; subst h2
    have : us = [] := List.eq_nil_of_length_eq_zero hps.1.symm
    subst this
    exact ⟨C, cur, rfl, Froze.refl hR, rfl, hrow⟩
  | (k, x) :: ps, [], C, es, q, H', cur, hR, h, hps, hrow => by cases hps.1
  | (k, x) :: ps, y :: us, C, es, q, H', cur, hR, h, hps, hrow => by
    simp only [rowParts] at h
    split at h
    · rename_i v H1 hv
      split at h
      · rename_i hh
        obtain ⟨u, rfl, hx⟩ := hps.head
        obtain ⟨hxl, hxr⟩ := hx.cells
        obtain ⟨hvl, C1, hC1, hf1, hs⟩ := thaws_run (us := u.cells.toList) hR hv (by simpa using hxl) (fun i p hi => by
          have := hxr i p hi
          simpa [Array.getD_eq_getD_getElem?, List.getD_eq_getElem?_getD] using this)
        subst hC1
        obtain ⟨r1, r2, r3⟩ := hrow
        have hul : u.cells.size = size := by simp at hvl; omega
        have hin : k * size + size ≤ es.length * size := by rw [← Nat.succ_mul]; exact Nat.mul_le_mul_right _ hh.2
        have hfit : k * size + u.cells.toList.length ≤ cur.toList.length := by simp; omega
        have hrow1 : RowsAt C1.F size (es.set k v) (setCells cur.toList (k * size) u.cells.toList).toArray := by
          refine ⟨by simp [setCells_length, r1], fun c hc => ?_, fun i c j p hi hj => ?_⟩
          · rcases List.mem_or_eq_of_mem_set hc with hc | hc
            · exact r2 c hc
            · subst hc; exact hh.1
          · have hget : (setCells cur.toList (k * size) u.cells.toList).toArray.getD (i * size + j) undef =
                if k * size ≤ i * size + j ∧ i * size + j < k * size + u.cells.toList.length then u.cells.getD (i * size + j - k * size) undef else cur.getD (i * size + j) undef := by
              have := setCells_get u.cells.toList cur.toList (k * size) (i * size + j) hfit
              simp only [Array.getD_eq_getD_getElem?, List.getElem?_toArray, this]
              split <;> simp
            rw [hget]
            simp only [Array.length_toList, hul]
            by_cases e : i = k
            · subst e
              rw [List.getElem?_set_self hh.2] at hi
              injection hi with hi
              subst hi
              have hjl := (List.getElem?_eq_some_iff.1 hj).1
              rw [if_pos (by omega)]
              have e2 : i * size + j - i * size = j := by omega
              rw [e2]
              have := hs j p hj
              simpa [Array.getD_eq_getD_getElem?, List.getD_eq_getElem?_getD] using this
            · rw [List.getElem?_set_ne (Ne.symm e)] at hi
              have hcl := r2 c (List.mem_of_getElem? hi)
              have hjl := (List.getElem?_eq_some_iff.1 hj).1
              rw [if_neg]
              · exact (r3 i c j p hi hj).mono hf1.ext.F
              · rintro ⟨a1, a2⟩
                rcases Nat.lt_or_gt_of_ne e with hlt | hgt
                · have : i * size + size ≤ k * size := by rw [← Nat.succ_mul]; exact Nat.mul_le_mul_right _ hlt
                  omega
                · have : k * size + size ≤ i * size := by rw [← Nat.succ_mul]; exact Nat.mul_le_mul_right _ hgt
                  omega
        obtain ⟨C', cur', g1, g2, g3, g4⟩ := rowParts_run hf1.rel h ⟨hps.tail.1, fun i k' p hi => by
          obtain ⟨u', hu1, hu2⟩ := hps.tail.2 i k' p hi
          exact ⟨u', hu1, hf1.ext.rel hu2⟩⟩ hrow1
        refine ⟨C', cur', g1, hf1.trans g2, ?_, g4⟩
        simp only [Instr.fill]
        rw [if_neg (by simp at hfit ⊢; omega), fill_one]
        exact g3
      · cases h
    · cases h
/-- A block is laid and at once held fast. -/
theorem fix_new {es : List (List SV)} {size : Nat} {cur : Array Value} (hR : Rel w0 C w) (hrow : RowsAt C.F size es cur) (hle : es.length ≤ maxLen) (t : TypeId) (d : Nat) :
    ∃ C', C'.H = C.H ∧ Rel w0 C' (World.more w (.cells cur t) d) ∧ Ext C w C' (World.more w (.cells cur t) d) ∧ SRel C'.F (.slice es true) (.slice (some ⟨w.heap.size, 0, none⟩) es.length es.length) := by
  obtain ⟨r1, r2, r3⟩ := hrow
  let C' : Cx := { C with F := C.F.join (rowF w.heap.size size es.length cur) }
  have hF : ∀ b o v, C.F b o = some v → C'.F b o = some v := fun b o v h => Fix.join_left h
  have hne : ∀ b o, b ≠ w.heap.size → C'.F b o = C.F b o := by
    intro b o hb
    show Fix.join _ _ _ _ = _
    unfold Fix.join
    cases hv : C.F b o with
    | none => simp [rowF, hb]
    | some v => rfl
  have hnew : ∀ o, o < es.length * size → C'.F w.heap.size o = some (cur.getD o undef) := by
    intro o ho
    show Fix.join _ _ _ _ = _
    unfold Fix.join
    rw [F_fresh hR _ _ (Nat.le_refl _)]
    simp [rowF, ho]
  have hk : ∀ j, Keeps C C' j := fun j => Keeps.refl C j
  refine ⟨C', rfl, Rel.ofObj (more_below hR.below _ d) (fun b o v hv => ?_) (fun id ha => ?_) hR.inj (fun id => ?_), ⟨hF, hk, fun b hb _ => more_old w _ d b hb, fun id ha => .inl ⟨id, ha, rfl⟩, by rw [more_size]; omega, fun b o v hv => by
      by_cases hb : b = w.heap.size
      · exact .inr (.inl (by omega))
      · rw [hne b o hb] at hv
        exact .inl hv⟩, ?_⟩
  · by_cases hb : b = w.heap.size
    · subst hb
      have hv' : Fix.join C.F (rowF w.heap.size size es.length cur) w.heap.size o = some v := hv
      unfold Fix.join at hv'
      rw [F_fresh hR _ _ (Nat.le_refl _)] at hv'
      simp only [rowF] at hv'
      split at hv'
      · rename_i hh
        injection hv' with hv'
        subst hv'
        simp [World.cell?, more_new, Array.getD_eq_getD_getElem?, show o < cur.size by omega]
      · cases hv'
    · rw [hne b o hb] at hv
      exact more_cell (hR.cell b o v hv) _ d
  · have := hR.lt id ha
    rw [more_size]
    exact ⟨this.1, by show C.σ id < _; omega⟩
  · by_cases ha : (C.H id).alive = true
    · have := (hR.lt id ha).2
      exact (hR.objOk id).move rfl rfl rfl (more_old w _ d _ this) hF (fun o => hne _ _ (by omega)) hk
    · have hd : C.H id = .dead := by
        cases hb : C.H id <;> rw [hb] at ha <;> first | rfl | exact absurd rfl ha
      unfold ObjOk
      rw [show C'.H id = .dead from hd]
      trivial
  · refine .slice es true ⟨w.heap.size, 0, none⟩ es.length size (fun i j => cur.getD (i * size + j) undef) r2 (fun _ => rfl) (Nat.le_refl _) hle (fun _ => rfl) (fun i c j p hi hj => ?_) (fun i c j p hi hj => (r3 i c j p hi hj).mono hF)
    have h1 := (List.getElem?_eq_some_iff.1 hi).1
    have h2 := (List.getElem?_eq_some_iff.1 hj).1
    have h3 := r2 c (List.mem_of_getElem? hi)
    show C'.F w.heap.size (0 + (i * size + j)) = _
    rw [Nat.zero_add]
    exact hnew _ (row_in h1 (by omega))
theorem zeros_row {t : TypeId} {y : TI} (f : TyFacts P t y) (hs : 0 < y.size) (F : Fix) (n : Nat) :
    RowsAt F y.size (List.replicate n y.zero) ((Array.range (n * y.size)).map (f.z.cells[· % f.z.cells.size]!)) := by
  obtain ⟨hz1, hz2⟩ := zero_rel f F
  refine ⟨by simp, fun c hc => by rw [List.eq_of_mem_replicate hc]; exact f.hn, fun i c j p hi hj => ?_⟩
  obtain ⟨h1, h2⟩ := List.getElem?_eq_some_iff.1 hi
  simp at h1 h2
  subst h2
  have hjl := (List.getElem?_eq_some_iff.1 hj).1
  have hlt : i * y.size + j < n * y.size := row_in h1 (by have := f.hn; omega)
  have hm : (i * y.size + j) % y.size = j := by
    rw [Nat.mul_comm, Nat.mul_add_mod]
    exact Nat.mod_eq_of_lt (by have := f.hn; omega)
  have := hz2 j p hj
  have hj2 : j < f.z.cells.size := by have := f.hn; omega
  simp only [Array.getD_eq_getD_getElem?, Array.getElem?_map, Array.getElem?_range, hlt, if_true, Option.map_some, Option.getD_some, hz1, hm, getElem!_pos, hj2]
  simpa [Array.getD_eq_getD_getElem?, hj2] using this
theorem rowParts_length {size : Nat} : ∀ {ps : List (Nat × PV)} {H H' : Ob} {es q : List (List SV)}, rowParts size H es ps = some (q, H') → q.length = es.length
  | [], H, H', es, q, h => by
    simp only [rowParts] at h
    injection h with h
    injection h with h1 h2
    subst h1
    rfl
  | (k, x) :: ps, H, H', es, q, h => by
    simp only [rowParts] at h
    split at h
    · split at h
      · rw [rowParts_length h]; simp
      · cases h
    · cases h
theorem buildSliceO_run {t : TypeId} {n : Nat} {ps : List (Nat × PV)} {us : List (Nat × Value)} {p : PV} {H' : Ob} (hR : Rel w0 C w) (h : buildSliceO P t C.H n ps = some (p, H')) (hps : PartsRel C ps us) :
    ∃ v w' C', (Instr.buildSlice t n us.toArray).run P w = .ok v w' ∧ C'.H = H' ∧ PRel C' p v ∧ Rel w0 C' w' ∧ Ext C w C' w' := by
  unfold buildSliceO at h
  split at h
  · rename_i e he
    split at h
    · rename_i y hy
      split at h
      · rename_i hh
        split at h
        · rename_i es H1 hrows
          injection h with h
          injection h with h1 h2
          subst h1; subst h2
          obtain ⟨f⟩ := ti_facts hy
          obtain ⟨C1, cur', g1, g2, g3, g4⟩ := rowParts_run hR hrows hps (zeros_row f hh.2 C.F n)
          have hlen : es.length = n := by rw [rowParts_length hrows]; simp
          have hnle : n ≤ n * y.size := Nat.le_mul_of_pos_right n hh.2
          obtain ⟨C2, k1, k2, k3, k4⟩ := fix_new g2.rel g4 (by rw [hlen]; unfold maxLen; omega) e w.drawn
          refine ⟨_, _, C2, ?_, k1.trans g1, .s _ _ k4, k2, g2.ext.trans k3⟩
          by_cases hz : n * y.size = 0
          · have hn0 : n = 0 := by omega
            subst hn0
            have hz0 : 0 * y.size = 0 := by omega
            have e0 : (Array.range 0).map (f.z.cells[· % f.z.cells.size]!) = #[] := by simp
            rw [hz0, e0] at g3
            simp only [Instr.buildSlice, Sem.run_bind, run_underlying (elemT_eq he), Result.andThen_ok, f.run_size, Sem.run_ite]
            rw [if_neg (by omega)]
            simp only [Sem.run_pure, Result.andThen_ok, hz0, if_true]
            have e1 : (Array.range 0).map ((#[] : Array Value)[· % (#[] : Array Value).size]!) = #[] := by simp
            rw [e1, g3, hlen]
            rfl
          · simp only [Instr.buildSlice, Sem.run_bind, run_underlying (elemT_eq he), Result.andThen_ok, f.run_size, Sem.run_ite]
            rw [if_neg (by omega)]
            simp only [Sem.run_pure, Result.andThen_ok, f.run_zero, hz, if_false, g3]
            rw [hlen]
            rfl
        · cases h
      · cases h
    · cases h
  · cases h
end
end Go.Vm
