/- Each operation of the abstract machine is what the model's own operation does: append onto what it may be appended to; conversions. -/
import Derived.Test.YtfgkhgkgaedcmaaVmH
set_option linter.unusedVariables false
set_option linter.unusedSimpArgs false
namespace Go.Vm
open Go.RowKit

section
variable {P : Program} {w w0 : World} {F : Fix} {C : Cx}

def Cx.moved (C : Cx) (id b cap : Nat) (o : HObj) : Cx := { σ := fun j => if j = id then b else C.σ j, cap := fun j => if j = id then cap else C.cap j, F := C.F, H := C.H.set id o }
theorem Rel.moved {id cap d ver : Nat} {ty sz : Nat} {fz fz' ap : Bool} {es es' : List (List SV)} {o : Obj} (hR : Rel w0 C w) (hH : C.H id = .sarr ty sz ver fz ap es)
    (hok : ObjOk (C.moved id w.heap.size cap (.sarr ty sz (ver + 1) fz' ap es')) (World.more w o d) id) :
    Rel w0 (C.moved id w.heap.size cap (.sarr ty sz (ver + 1) fz' ap es')) (World.more w o d) ∧ Ext C w (C.moved id w.heap.size cap (.sarr ty sz (ver + 1) fz' ap es')) (World.more w o d) := by
  have hne : ∀ j, j ≠ id → (C.moved id w.heap.size cap (.sarr ty sz (ver + 1) fz' ap es')).H j = C.H j ∧ (C.moved id w.heap.size cap (.sarr ty sz (ver + 1) fz' ap es')).σ j = C.σ j ∧ (C.moved id w.heap.size cap (.sarr ty sz (ver + 1) fz' ap es')).cap j = C.cap j :=
    fun j e => ⟨if_neg e, if_neg e, if_neg e⟩
  have hs : (C.moved id w.heap.size cap (.sarr ty sz (ver + 1) fz' ap es')).σ id = w.heap.size := if_pos rfl
  have hHid : (C.moved id w.heap.size cap (.sarr ty sz (ver + 1) fz' ap es')).H id = .sarr ty sz (ver + 1) fz' ap es' := if_pos rfl
  have hk : ∀ j, Keeps C (C.moved id w.heap.size cap (.sarr ty sz (ver + 1) fz' ap es')) j := by
    intro j
    by_cases e : j = id
    · subst e
      unfold Keeps
      rw [hH]
      exact ⟨ver + 1, fz', es', hHid, by omega, fun e => by omega⟩
    · obtain ⟨e1, e2, e3⟩ := hne j e
      unfold Keeps
      cases hb : C.H j with
      | dead => trivial
      | box ty cells => exact ⟨cells, e1.trans hb, e2⟩
      | sarr ty sz ver fz ap es => exact ⟨ver, fz, es, e1.trans hb, Nat.le_refl _, fun _ => ⟨e2, e3, rfl⟩⟩
      | map es => exact ⟨es, e1.trans hb, e2⟩
  have hal : (C.H id).alive = true := alive_sarr hH
  refine ⟨Rel.ofObj (more_below hR.below o d) (fun b k v hv => more_cell (hR.cell b k v hv) o d) (fun j ha => ?_) (fun i j hi hj e => ?_) (fun j => ?_), ⟨fun _ _ _ h => h, hk, fun b hb _ => more_old w o d b hb, fun j ha => ?_, by rw [more_size]; omega, fun _ _ _ h => .inl h⟩⟩
  · by_cases e : j = id
    · subst e
      rw [hs, more_size]
      exact ⟨hR.below.size, by omega⟩
    · obtain ⟨e1, e2, _⟩ := hne j e
      rw [e1] at ha
      rw [e2, more_size]
      have := hR.lt j ha
      omega
  · by_cases ei : i = id <;> by_cases ej : j = id
    · omega
    · obtain ⟨e1, e2, _⟩ := hne j ej
      subst ei
      rw [hs, e2] at e
      rw [e1] at hj
      have := (hR.lt j hj).2
      omega
    · obtain ⟨e1, e2, _⟩ := hne i ei
      subst ej
      rw [hs, e2] at e
      rw [e1] at hi
      have := (hR.lt i hi).2
      omega
    · obtain ⟨e1, e2, _⟩ := hne i ei
      obtain ⟨e1', e2', _⟩ := hne j ej
      rw [e1] at hi
      rw [e1'] at hj
      rw [e2, e2'] at e
      exact hR.inj i j hi hj e
  · by_cases e : j = id
    · subst e; exact hok
    · obtain ⟨e1, e2, e3⟩ := hne j e
      by_cases ha : (C.H j).alive = true
      · exact (hR.objOk j).move e1 e2 e3 (more_old w o d _ (hR.lt j ha).2) (fun _ _ _ h => h) (fun _ => rfl) hk
      · unfold ObjOk
        rw [e1]
        cases hb : C.H j <;> rw [hb] at ha <;> first | trivial | exact absurd rfl ha
  · by_cases e : j = id
    · subst e
      rw [hs]
      exact .inr (Nat.le_refl _)
    · obtain ⟨e1, e2, _⟩ := hne j e
      rw [e1] at ha
      exact .inl ⟨j, ha, e2⟩

theorem grown_size {n m nc sz : Nat} {z : Array Value} {a b : List Value} (ha : a.length = n * sz) (hb : b.length = m * sz) (hz : z.size = sz) (h : n + m ≤ nc) : (a.toArray ++ b.toArray ++ Builtin.zeroCells z (nc - (n + m))).size = nc * sz := by
  simp only [Array.size_append, List.size_toArray, size_zeroCells, ha, hb, hz, ← Nat.add_mul]
  congr 1
  omega
theorem firstCells_slice {n sz : Nat} {a : Addr} {cap : Nat} {vs : Nat → Nat → Value} (h : ∀ i j, i < n → j < sz → w.cell? (a.add (i * sz + j)) = some (vs i j)) (d : Nat) :
    (Builtin.firstCells sz n (.slice (some a) n cap)).run P { w with drawn := d } = .ok (flat n sz vs).toArray { w with drawn := d } := by
  refine run_firstCells_some _ _ _ _ _ _ _ (flat_length _ _ _) (fun k u hk => ?_)
  obtain ⟨i, j, hi, hj, rfl, rfl⟩ := flat_cases hk
  exact h i j hi hj
theorem nonempty_pos {α : Type} {l : List α} (h : l.isEmpty ≠ true) : 0 < l.length := by
  cases l with
  | nil => exact absurd rfl h
  | cons a l => simp

theorem appendO_run {t t2 ty : TypeId} {nid : Nat} {s x p : PV} {H' : Ob} {us ux : Value} (hR : Rel w0 C w) (hd : C.H nid = .dead) (h : appendO P t t2 C.H nid s x = some (p, H')) (hs : PRel C s us) (hx : PRel C x ux) :
    ∃ v w' C', (Builtin.append_ #[t, t2] ty #[us, ux]).run P w = .ok v w' ∧ C'.H = H' ∧ PRel C' p v ∧ Rel w0 C' w' ∧ Ext C w C' w' := by
  unfold appendO at h
  split at h
  · rename_i e new he hnew
    split at h
    · rename_i y hy
      split at h
      · rename_i hh
        obtain ⟨hall, hsz, hby, htt⟩ := hh
        have hln := rows_all hall
        obtain ⟨f⟩ := ti_facts hy
        obtain ⟨vs, hv⟩ := rowVals (P := P) hR hnew hx hsz hln
        have hu := elemT_eq he
        have hd2 : (∃ e', P.underlying t2 = some (.slice e')) ∨ P.underlying t2 = some .string := by
          rcases htt with rfl | ⟨h1, _⟩
          · exact .inl ⟨e, hu⟩
          · exact .inr (isStringT_eq h1)
        have hrun := hv.run
        have hfs : f.i.size = y.size := f.hs
        rw [← hfs] at hrun
        have hby' : f.i.bytes ≤ 65536 := by rw [f.hb]; exact hby
        have hnl : (flat new.length f.i.size vs).length = new.length * f.i.size := flat_length _ _ _
        have hzz : f.z.cells.size = f.i.size := by rw [(zero_rel f C.F).1, hfs]
        split at h
        · -- nil
          cases hs with
          | s _ _ hs =>
          cases hs
          split at h
          · rename_i hb
            split at h
            · rename_i hem
              injection h with h
              injection h with e1 e2
              subst e1; subst e2
              have hm : new.length = 0 := by simpa using hem
              have := append_some (P := P) (w := w) (ty := ty) hu f.hi hd2 (base := none) (n := 0) (cap := 0) (m := new.length) (x := ux) (news := flat new.length f.i.size vs) hv.len hrun (by omega)
              simp only [hm] at this
              exact ⟨.slice none 0 0, w, C, this, rfl, .s _ _ .nils, hR, Ext.refl C w⟩
            · rename_i hem
              injection h with h
              injection h with e1 e2
              subst e1; subst e2
              have hpos := nonempty_pos hem
              obtain ⟨nc, d, g1, g2, g3⟩ := append_grow (P := P) (w := w) (ty := ty) hu f.hi f.hz hd2 (base := none) (n := 0) (cap := 0) (m := new.length) (x := ux) (olds := []) (news := flat new.length f.i.size vs) hv.len
                (fun d => by simp [Builtin.firstCells]) hrun (by omega) (by omega) hby'
              simp only [Nat.zero_add] at g1 g3
              obtain ⟨k1, k2, k3⟩ := sarr_new (nid := nid) (ty := e) (sz := y.size) (cap := nc) (ap := true) (es := new) (fr := (0, 0))
                (cur := (([] : List Value).toArray ++ (flat new.length f.i.size vs).toArray ++ Builtin.zeroCells f.z.cells (nc - new.length))) hR hd hsz hln g1 g2
                (by have := grown_size (n := 0) (m := new.length) (nc := nc) (sz := y.size) (z := f.z.cells) (a := []) (b := flat new.length f.i.size vs) (by simp) (by rw [hnl, hfs]) (by rw [hzz, hfs]) (by omega)
                    simpa only [Nat.zero_add] using this) (fun _ => rfl) (.inl rfl)
                (by have := flat_rows (F := C.F) (es := []) (new := new) (sz := y.size) (vs := vs) (us := vs) (fun c hc => by cases hc) hln (fun i c j p hi => by simp at hi) hv.rel (Builtin.zeroCells f.z.cells (nc - new.length))
                    rw [hfs]
                    simpa [flat] using this) d
              exact ⟨_, _, _, g3, rfl, k3, k1, k2⟩
          · cases h
        · -- a slice that is only read
          rename_i es full
          split at h
          · rename_i hc
            obtain ⟨hc1, hbound⟩ := hc
            have hle := rows_all hc1
            cases hs with
            | s _ _ hs =>
            cases hs with
            | slice es full a cap sz vs' g1 g2 g3 g3' g4 g5 g6 =>
              split at h
              · rename_i hem
                injection h with h
                injection h with e1 e2
                subst e1; subst e2
                have hm : new.length = 0 := by simpa using hem
                have hnil : new = [] := List.eq_nil_of_length_eq_zero hm
                have := append_some (P := P) (w := w) (ty := ty) hu f.hi hd2 (base := some a) (n := es.length) (cap := cap) (m := new.length) (x := ux) (news := flat new.length f.i.size vs) hv.len hrun (by omega)
                subst hnil
                simp only [List.length_nil, Nat.add_zero] at this
                refine ⟨_, w, C, ?_, rfl, .s _ _ (.slice es full a cap sz vs' g1 g2 g3 g3' g4 g5 g6), hR, Ext.refl C w⟩
                rw [this]
                simp [flat, storeCells]
              · rename_i hem
                split at h
                · rename_i hfull
                  injection h with h
                  injection h with e1 e2
                  subst e1; subst e2
                  have hpos := nonempty_pos hem
                  have hcap := g4 hfull
                  have hcells : ∀ i j, i < es.length → j < f.i.size → w.cell? (a.add (i * f.i.size + j)) = some (vs' i j) := by
                    intro i j hi hj
                    have hmem := List.getElem_mem hi
                    have hne : es ≠ [] := by intro e; subst e; simp at hi
                    have e1 : sz = y.size := (g1 _ hmem).symm.trans (hle _ hmem)
                    have hjl : j < es[i].length := by rw [hle _ hmem]; omega
                    have := hR.cell _ _ _ (g5 i es[i] j es[i][j] (List.getElem?_eq_getElem hi) (List.getElem?_eq_getElem hjl))
                    rw [add_spot (g2 hne), hfs]
                    rw [e1] at this
                    exact this
                  obtain ⟨nc, d, q1, q2, q3⟩ := append_grow (P := P) (w := w) (ty := ty) hu f.hi f.hz hd2 (base := some a) (n := es.length) (cap := cap) (m := new.length) (x := ux) (olds := flat es.length f.i.size vs') (news := flat new.length f.i.size vs) hv.len
                    (firstCells_slice hcells) hrun (by omega) (by omega) hby'
                  have hlen : (es ++ new).length = es.length + new.length := by simp
                  obtain ⟨k1, k2, k3⟩ := sarr_new (nid := nid) (ty := e) (sz := y.size) (cap := nc) (ap := true) (es := es ++ new) (fr := (0, 0))
                    (cur := ((flat es.length f.i.size vs').toArray ++ (flat new.length f.i.size vs).toArray ++ Builtin.zeroCells f.z.cells (nc - (es.length + new.length)))) hR hd hsz
                    (fun c hc => by rcases List.mem_append.1 hc with hc | hc; exact hle c hc; exact hln c hc) (by rw [hlen]; exact q1) q2
                    (grown_size (by rw [flat_length, hfs]) (by rw [hnl, hfs]) (by rw [hzz, hfs]) q1) (fun _ => rfl) (.inl rfl)
                    (by rw [hfs]; exact flat_rows hle hln g6 hv.rel _) d
                  rw [hlen] at k3
                  exact ⟨_, _, _, q3, rfl, k3, k1, k2⟩
                · cases h
          · cases h
        · -- an object
          rename_i id ver off n
          split at h
          · rename_i ty' sz v fz es hH
            split at h
            · rename_i hc
              obtain ⟨hv1, hoff, hn, hsz1, hty, hbound⟩ := hc
              subst hv1; subst hoff; subst hn; subst hsz1; subst hty
              obtain ⟨g1, g2, g3, g4, cur, fr, k1, k2, k2', k3, k4, k5⟩ := hR.sarr _ _ _ _ _ _ _ hH
              cases hs with
              | hsl id ver off n ty1 sz1 cur1 fz1 ap1 es1 v1 hc hle' h1' he' =>
                rw [hc] at hH
                injection hH with e1 e2 e3 e4 e5 e6
                subst e1; subst e2; subst e3; subst e4; subst e5; subst e6
                obtain ⟨_, hv2⟩ := he' rfl
                subst hv2
                rw [Nat.zero_mul, Nat.sub_zero]
                have hfr := k2 rfl
                subst hfr
                split at h
                · rename_i hem
                  injection h with h
                  injection h with e1 e2
                  subst e1; subst e2
                  have hm : new.length = 0 := by simpa using hem
                  have hnil : new = [] := List.eq_nil_of_length_eq_zero hm
                  have := append_some (P := P) (w := w) (ty := ty) hu f.hi hd2 (base := some ⟨C.σ id, 0, none⟩) (n := es1.length) (cap := C.cap id) (m := new.length) (x := ux) (news := flat new.length f.i.size vs) hv.len hrun (by omega)
                  subst hnil
                  simp only [List.length_nil, Nat.add_zero] at this
                  refine ⟨_, w, C, ?_, rfl, .hsl id cur1 0 es1.length ty1 y.size cur1 fz1 true es1 _ hc hle' rfl (fun _ => ⟨by omega, by rw [Nat.zero_mul, Nat.sub_zero]⟩), hR, Ext.refl C w⟩
                  rw [this]
                  simp [flat, storeCells]
                · rename_i hem
                  injection h with h
                  injection h with e1 e2
                  subst e1; subst e2
                  have hpos := nonempty_pos hem
                  have hlen : (es1 ++ new).length = es1.length + new.length := by simp
                  have hlen2 : ∀ c, c ∈ es1 ++ new → c.length = y.size := fun c hc => by rcases List.mem_append.1 hc with hc | hc; exact g2 c hc; exact hln c hc
                  by_cases hroom : es1.length + new.length ≤ C.cap id
                  · have hap := append_some (P := P) (w := w) (ty := ty) hu f.hi hd2 (base := some ⟨C.σ id, 0, none⟩) (n := es1.length) (cap := C.cap id) (m := new.length) (x := ux) (news := flat new.length f.i.size vs) hv.len hrun hroom
                    have hfit : es1.length * f.i.size + (flat new.length f.i.size vs).length ≤ cur.size := by rw [hnl, k3, hfs, ← Nat.add_mul]; exact Nat.mul_le_mul_right _ hroom
                    have hst := run_storeCells_gen P (C.σ id) ty1 (0, 0) (es1.length * f.i.size) (flat new.length f.i.size vs) 0 cur w k1 hfit (.inl rfl) (by rw [hfs]; exact flat_one hln hv.rel)
                    simp only [add_none, Nat.zero_add, Nat.add_zero] at hap hst
                    rw [hst] at hap
                    simp only [Result.andThen_ok] at hap
                    have hget : ∀ k, ((setCells cur.toList (es1.length * f.i.size) (flat new.length f.i.size vs)).toArray).getD k undef =
                        if es1.length * f.i.size ≤ k ∧ k < es1.length * f.i.size + (flat new.length f.i.size vs).length then (flat new.length f.i.size vs).getD (k - es1.length * f.i.size) undef else cur.getD k undef := by
                      intro k
                      have := setCells_get (flat new.length f.i.size vs) cur.toList (es1.length * f.i.size) k (by simpa using hfit)
                      simp only [Array.getD_eq_getD_getElem?, List.getD_eq_getElem?_getD, List.getElem?_toArray, this]
                      split <;> simp
                    have hw := Rel.write (id := id) (ho := .sarr ty1 y.size (cur1 + 1) fz1 true (es1 ++ new)) (w' := w.setRow (C.σ id) (setCells cur.toList (es1.length * f.i.size) (flat new.length f.i.size vs)).toArray) hR (alive_sarr hc)
                      (setRow_below hR.below (hR.lt id (alive_sarr hc)).1) (by rw [setRow_size]; exact Nat.le_refl _) (fun k _ hk => setRow_other w _ k _ hk)
                      (fun o v hF => by
                        have hold := hR.cell _ _ _ hF
                        have ho := (k5 o v hF).2
                        have h1 : w.cell? ⟨C.σ id, o, none⟩ = cur[o]? := by simp [World.cell?, k1]
                        rw [h1] at hold
                        have h2 := setRow_heap w _ _ (setCells cur.toList (es1.length * f.i.size) (flat new.length f.i.size vs)).toArray _ _ k1
                        simp only [World.cell?, h2, Option.isSome_none, Bool.false_eq_true, if_false, List.getElem?_toArray]
                        rw [setCells_get _ _ _ _ (by simpa using hfit), if_neg (by rw [hfs]; omega), Array.getElem?_toList]
                        exact hold)
                      (by unfold Keeps; rw [hc]; exact ⟨cur1 + 1, fz1, es1 ++ new, if_pos rfl, by omega, fun e => by omega⟩)
                      (by
                        unfold ObjOk
                        rw [show ({ C with H := C.H.set id (.sarr ty1 y.size (cur1 + 1) fz1 true (es1 ++ new)) } : Cx).H id = .sarr ty1 y.size (cur1 + 1) fz1 true (es1 ++ new) from if_pos rfl]
                        refine ⟨hsz, hlen2, by rw [hlen]; exact hroom, g4, _, (0, 0), setRow_heap w _ _ _ _ _ k1, fun _ => rfl, .inl rfl, by simpa [setCells_length] using k3, fun i c j p hi hj => ?_, fun o v hF => ⟨(k5 o v hF).1, ?_⟩⟩
                        · rw [hget, hfs]
                          have hjl := (List.getElem?_eq_some_iff.1 hj).1
                          rcases Nat.lt_or_ge i es1.length with hlt | hge
                          · rw [List.getElem?_append_left hlt] at hi
                            have hcl := g2 c (List.mem_of_getElem? hi)
                            have := row_in (size := y.size) hlt (by omega : j < y.size)
                            rw [if_neg (by omega)]
                            exact k4 i c j p hi hj
                          · rw [List.getElem?_append_right hge] at hi
                            have hcl := hln c (List.mem_of_getElem? hi)
                            have h2 := (List.getElem?_eq_some_iff.1 hi).1
                            have e1 : es1.length * y.size ≤ i * y.size := Nat.mul_le_mul_right _ hge
                            have e2 : i * y.size + j - es1.length * y.size = (i - es1.length) * y.size + j := by rw [Nat.sub_mul]; omega
                            have e3 := row_in (size := y.size) h2 (by omega : j < y.size)
                            rw [flat_length, if_pos (by constructor; omega; rw [Nat.sub_mul] at e3; omega), e2, List.getD_eq_getElem?_getD, flat_get h2 (by omega)]
                            exact hv.rel _ c j p hi hj
                        · have := (k5 o v hF).2
                          rw [hlen, Nat.add_mul]
                          omega)
                    obtain ⟨w1, w2⟩ := hw
                    exact ⟨_, _, _, hap, rfl, .hsl id (cur1 + 1) 0 _ ty1 y.size (cur1 + 1) fz1 true (es1 ++ new) _ (if_pos rfl) (Nat.le_refl _) rfl (fun _ => ⟨by rw [hlen]; omega, by rw [Nat.zero_mul, Nat.sub_zero]⟩), w1, w2⟩
                  · have hcells : ∀ i j, i < es1.length → j < f.i.size → w.cell? ((⟨C.σ id, 0, none⟩ : Addr).add (i * f.i.size + j)) = some (cur.getD (i * f.i.size + j) undef) := by
                      intro i j hi hj
                      have := row_in (size := f.i.size) (n := C.cap id) (i := i) (j := j) (by omega) hj
                      rw [add_none, Nat.zero_add]
                      have hlt : i * f.i.size + j < cur.size := by rw [k3, ← hfs]; exact this
                      simp [World.cell?, k1, Array.getD_eq_getD_getElem?, hlt]
                    obtain ⟨nc, d, q1, q2, q3⟩ := append_grow (P := P) (w := w) (ty := ty) hu f.hi f.hz hd2 (base := some ⟨C.σ id, 0, none⟩) (n := es1.length) (cap := C.cap id) (m := new.length) (x := ux)
                      (olds := flat es1.length f.i.size (fun i j => cur.getD (i * f.i.size + j) undef)) (news := flat new.length f.i.size vs) hv.len (firstCells_slice hcells) hrun (by omega) hbound hby'
                    have hmv := Rel.moved (id := id) (cap := nc) (d := d) (fz' := fz1) (es' := es1 ++ new)
                      (o := .cells ((flat es1.length f.i.size (fun i j => cur.getD (i * f.i.size + j) undef)).toArray ++ (flat new.length f.i.size vs).toArray ++ Builtin.zeroCells f.z.cells (nc - (es1.length + new.length))) ty1) hR hc (by
                        unfold ObjOk
                        rw [show (C.moved id w.heap.size nc (.sarr ty1 y.size (cur1 + 1) fz1 true (es1 ++ new))).H id = .sarr ty1 y.size (cur1 + 1) fz1 true (es1 ++ new) from if_pos rfl,
                          show (C.moved id w.heap.size nc (.sarr ty1 y.size (cur1 + 1) fz1 true (es1 ++ new))).σ id = w.heap.size from if_pos rfl,
                          show (C.moved id w.heap.size nc (.sarr ty1 y.size (cur1 + 1) fz1 true (es1 ++ new))).cap id = nc from if_pos rfl]
                        refine ⟨hsz, hlen2, by rw [hlen]; exact q1, q2, _, (0, 0), more_new _ _ _, fun _ => rfl, .inl rfl, grown_size (by rw [flat_length, hfs]) (by rw [hnl, hfs]) (by rw [hzz, hfs]) q1, ?_, fun o v hF => ?_⟩
                        · rw [hfs]
                          exact flat_rows g2 hln k4 hv.rel _
                        · rw [show (C.moved id w.heap.size nc (.sarr ty1 y.size (cur1 + 1) fz1 true (es1 ++ new))).F = C.F from rfl, F_fresh hR _ _ (Nat.le_refl _)] at hF
                          cases hF)
                    obtain ⟨w1, w2⟩ := hmv
                    exact ⟨_, _, _, q3, rfl, .hsl id (cur1 + 1) 0 _ ty1 y.size (cur1 + 1) fz1 true (es1 ++ new) _ (if_pos rfl) (Nat.le_refl _) rfl (fun _ => ⟨by rw [hlen]; omega, by
                      rw [show (C.moved id w.heap.size nc (.sarr ty1 y.size (cur1 + 1) fz1 true (es1 ++ new))).σ id = w.heap.size from if_pos rfl,
                        show (C.moved id w.heap.size nc (.sarr ty1 y.size (cur1 + 1) fz1 true (es1 ++ new))).cap id = nc from if_pos rfl, Nat.zero_mul, Nat.sub_zero]⟩), w1, w2⟩
            · cases h
          · cases h
        · cases h
      · cases h
    · cases h
  · cases h
end
end Go.Vm
