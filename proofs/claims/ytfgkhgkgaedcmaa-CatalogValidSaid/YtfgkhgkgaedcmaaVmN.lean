/- A call by content: what is handed over, what comes back. -/
import Derived.Test.YtfgkhgkgaedcmaaVmM
set_option linter.unusedVariables false
set_option linter.unusedSimpArgs false
namespace Go.Vm
open Go.RowKit

section
variable {P : Program} {w w0 : World} {C : Cx}

theorem rowsOf_idb {p : PV} {H : Ob} {es : List (List SV)} (h : rowsOf H p = some es) : True := trivial
mutual
theorem lend_run {C : Cx} : ∀ {p q : PV} {H' : Ob} {u : Value}, Rel w0 C w → lend C.H p = some (q, H') → PRel C p u → ∃ C', C'.H = H' ∧ Froze w0 C C' w ∧ PRel C' q u
  | .hsl id ver off n, q, H', u, hR, h, hp => by
    simp only [lend] at h
    obtain ⟨es, h1, h2⟩ := bnd_eq_some.1 h
    injection h2 with h2
    injection h2 with h3 h4
    subst h3; subst h4
    obtain ⟨C', g1, g2, g3⟩ := hsl_froze hR h1 hp
    exact ⟨C', g1, g2, .s _ _ g3⟩
  | .agg cs, q, H', u, hR, h, hp => by
    simp only [lend] at h
    obtain ⟨r, h1, h2⟩ := bnd_eq_some.1 h
    injection h2 with h2
    injection h2 with h3 h4
    subst h3; subst h4
    cases hp with
    | agg _ vs hl hr =>
      obtain ⟨g0, C', g1, g2, g3⟩ := lendL_run (us := vs.toList) hR h1 (by simpa using hl) (fun i p hi => by
        have := hr i p hi
        simpa [Array.getD_eq_getD_getElem?, List.getD_eq_getElem?_getD] using this)
      refine ⟨C', g1, g2, .agg _ _ (by simpa using g0) (fun i p hi => ?_)⟩
      have := g3 i p hi
      simpa [Array.getD_eq_getD_getElem?, List.getD_eq_getElem?_getD] using this
  | .s v, q, H', u, hR, h, hp => by
    simp only [lend] at h
    injection h with h
    injection h with h3 h4
    subst h3; subst h4
    exact ⟨C, rfl, Froze.refl hR, hp⟩
  | .ptr id off, q, H', u, hR, h, hp => by
    simp only [lend] at h
    injection h with h
    injection h with h3 h4
    subst h3; subst h4
    exact ⟨C, rfl, Froze.refl hR, hp⟩
  | .eptr es i off, q, H', u, hR, h, hp => by
    simp only [lend] at h
    injection h with h
    injection h with h3 h4
    subst h3; subst h4
    exact ⟨C, rfl, Froze.refl hR, hp⟩
  | .aptr id ver i off, q, H', u, hR, h, hp => by
    simp only [lend] at h
    injection h with h
    injection h with h3 h4
    subst h3; subst h4
    exact ⟨C, rfl, Froze.refl hR, hp⟩
  | .func f a b, q, H', u, hR, h, hp => by
    simp only [lend] at h
    injection h with h
    injection h with h3 h4
    subst h3; subst h4
    exact ⟨C, rfl, Froze.refl hR, hp⟩
  | .iface t v, q, H', u, hR, h, hp => by
    simp only [lend] at h
    injection h with h
    injection h with h3 h4
    subst h3; subst h4
    exact ⟨C, rfl, Froze.refl hR, hp⟩
  | .map id, q, H', u, hR, h, hp => by
    simp only [lend] at h
    injection h with h
    injection h with h3 h4
    subst h3; subst h4
    exact ⟨C, rfl, Froze.refl hR, hp⟩
  | .tuple vs, q, H', u, hR, h, hp => by
    simp only [lend] at h
    injection h with h
    injection h with h3 h4
    subst h3; subst h4
    exact ⟨C, rfl, Froze.refl hR, hp⟩
theorem lendL_run {C : Cx} : ∀ {l q : List PV} {H' : Ob} {us : List Value}, Rel w0 C w → lendL C.H l = some (q, H') → l.length = us.length → (∀ (i : Nat) p, l[i]? = some p → PRel C p (us.getD i undef)) →
    q.length = us.length ∧ ∃ C', C'.H = H' ∧ Froze w0 C C' w ∧ ∀ (i : Nat) p, q[i]? = some p → PRel C' p (us.getD i undef)
  | [], q, H', us, hR, h, hl, hr => by
    simp only [lendL] at h
    injection h with h
    injection h with h1 h2
    subst h1; subst h2
    exact ⟨hl, C, rfl, Froze.refl hR, fun i p hi => by simp at hi⟩
  | p :: r, q, H', [], hR, h, hl, hr => by simp at hl
  | p :: r, q, H', u :: us, hR, h, hl, hr => by
    simp only [lendL] at h
    obtain ⟨a, h1, h2⟩ := bnd_eq_some.1 h
    obtain ⟨b, h3, h4⟩ := bnd_eq_some.1 h2
    injection h4 with h4
    injection h4 with e1 e2
    subst e1; subst e2
    obtain ⟨C1, hC1, hf1, hv⟩ := lend_run hR h1 (hr 0 p rfl)
    rw [← hC1] at h3
    obtain ⟨hq, C2, hC2, hf2, hs⟩ := lendL_run (C := C1) hf1.rel h3 (by simpa using hl) (fun i p hi => hf1.ext.rel (hr (i + 1) p hi))
    refine ⟨by simp [hq], C2, hC2, hf1.trans hf2, fun i p hi => ?_⟩
    cases i with
    | zero =>
      simp at hi
      subst hi
      exact hf2.ext.rel hv
    | succ i => exact hs i p hi
end

/-! ### the objects below a number -/
theorem firstO_length (H : Ob) : ∀ m, (firstO H m).length = m
  | 0 => rfl
  | m + 1 => by simp [firstO, firstO_length H m]
theorem firstO_get (H : Ob) : ∀ (m j : Nat), j < m → (firstO H m)[j]? = some (H j)
  | 0, j, h => by omega
  | m + 1, j, h => by
    simp only [firstO]
    by_cases e : j < m
    · rw [List.getElem?_append_left (by rw [firstO_length]; exact e)]
      exact firstO_get H m j e
    · have ej : j = m := by omega
      subst ej
      rw [List.getElem?_append_right (by rw [firstO_length]; omega), firstO_length]
      simp
def Ob.cut (H : Ob) (m : Nat) : Ob := fun j => if j < m then H j else .dead
theorem ofFirst (H : Ob) (m : Nat) : Ob.of (firstO H m) = H.cut m := by
  funext j
  unfold Ob.of Ob.cut
  rw [List.getD_eq_getElem?_getD]
  by_cases e : j < m
  · rw [if_pos e, firstO_get H m j e]; rfl
  · rw [if_neg e, List.getElem?_eq_none (by rw [firstO_length]; omega)]; rfl
def Cx.cut (C : Cx) (m : Nat) : Cx := { C with H := C.H.cut m }
theorem idbL_le {m : Nat} : ∀ {l : List PV}, idbL l ≤ m → ∀ (i : Nat) p, l[i]? = some p → idb p ≤ m
  | [], h, i, p, hi => by simp at hi
  | q :: r, h, i, p, hi => by
    simp only [idbL] at h
    cases i with
    | zero => simp at hi; subst hi; omega
    | succ i => exact idbL_le (by omega) i p hi
theorem PRel.cut {m : Nat} {p : PV} {v : Value} (h : PRel C p v) (hm : idb p ≤ m) : PRel (C.cut m) p v := by
  have hH : ∀ id, id + 1 ≤ m → (C.cut m).H id = C.H id := fun id h => if_pos (by omega)
  induction h with
  | s p v h => exact .s p v h
  | ptr id off ty cells h => simp only [idb] at hm; exact .ptr id off ty cells ((hH id hm).trans h)
  | eptr es i off a sz vs h1 h2 h5 h6 => exact .eptr es i off a sz vs h1 h2 h5 h6
  | aptr id ver i off ty sz cur fz ap es v h hv h1 he => simp only [idb] at hm; exact .aptr id ver i off ty sz cur fz ap es v ((hH id hm).trans h) hv h1 he
  | hsl id ver off n ty sz cur fz ap es v h hv h1 he => simp only [idb] at hm; exact .hsl id ver off n ty sz cur fz ap es v ((hH id hm).trans h) hv h1 he
  | func f first cap as bs h1 _ h3 _ ih1 ih2 =>
    simp only [idb] at hm
    exact .func f first cap as bs h1 (fun i p hi => ih1 i p hi (idbL_le (by omega) i p hi)) h3 (fun i p hi => ih2 i p hi (idbL_le (by omega) i p hi))
  | iface t p v _ ih => simp only [idb] at hm; exact .iface t p v (ih hm)
  | map id es h => simp only [idb] at hm; exact .map id es ((hH id hm).trans h)
  | agg cs vs h1 _ ih => simp only [idb] at hm; exact .agg cs vs h1 (fun i p hi => ih i p hi (idbL_le hm i p hi))
  | tuple cs vs h1 _ ih => simp only [idb] at hm; exact .tuple cs vs h1 (fun i p hi => ih i p hi (idbL_le hm i p hi))
theorem cut_alive {m id : Nat} (h : ((C.cut m).H id).alive = true) : id < m ∧ (C.H id).alive = true := by
  have e : (C.cut m).H id = if id < m then C.H id else .dead := rfl
  rw [e] at h
  split at h
  · rename_i hlt; exact ⟨hlt, h⟩
  · cases h
theorem Rel.cut {m : Nat} (hR : Rel w0 C w) (hm : ∀ j, j < m → idbO (C.H j) ≤ m) : Rel w0 (C.cut m) w := by
  refine Rel.ofObj hR.below hR.cell (fun id ha => hR.lt id (cut_alive ha).2) (fun i j hi hj e => hR.inj i j (cut_alive hi).2 (cut_alive hj).2 e) (fun id => ?_)
  by_cases e : id < m
  · have hH : (C.cut m).H id = C.H id := if_pos e
    have ho := hR.objOk id
    have hb := hm id e
    unfold ObjOk at ho ⊢
    rw [hH]
    cases hq : C.H id with
    | dead => trivial
    | box ty cells =>
      rw [hq] at ho hb
      obtain ⟨vs, h1, h2, h3, h4⟩ := ho
      simp only [idbO] at hb
      exact ⟨vs, h1, h2, fun j p hj => ⟨(h3 j p hj).1.cut (idbL_le hb j p hj), (h3 j p hj).2⟩, h4⟩
    | sarr ty sz ver fz ap es => rw [hq] at ho; exact ho
    | map es => rw [hq] at ho; exact ho
  · have hH : (C.cut m).H id = .dead := if_neg e
    unfold ObjOk
    rw [hH]
    trivial

/-! ### a result without the objects from m on -/
/-- The same objects below m; above, what was frozen in between. -/
def Alike (m : Nat) (H H' : Ob) : Prop := (∀ j, j < m → H' j = H j) ∧ ∀ p, rowsOf H' p = rowsOf H p
theorem alike_freeze {m id : Nat} {H : Ob} (h : m ≤ id) : Alike m H (freeze1 H id) := by
  have hj : ∀ j, j ≠ id → freeze1 H id j = H j := by
    intro j e
    unfold freeze1
    cases hq : H id <;> simp only [] <;> first | exact if_neg e | rfl
  refine ⟨fun j hlt => hj j (by omega), fun p => ?_⟩
  cases p <;> simp only [rowsOf]
  case s v => cases v <;> rfl
  case hsl i ver off n =>
  by_cases e : i = id
  · subst e
    unfold freeze1
    cases hq : H i with
    | sarr ty sz v fz ap es =>
      simp only []
      rw [show (Ob.set H i (.sarr ty sz v true ap es)) i = .sarr ty sz v true ap es from if_pos rfl]
    | _ => simp only [hq]
  · rw [hj i e]
theorem Alike.trans {m : Nat} {A B D : Ob} (h : Alike m A B) (h' : Alike m B D) : Alike m A D := ⟨fun j hj => (h'.1 j hj).trans (h.1 j hj), fun p => (h'.2 p).trans (h.2 p)⟩
theorem Alike.refl (m : Nat) (A : Ob) : Alike m A A := ⟨fun _ _ => rfl, fun _ => rfl⟩
mutual
theorem own_run {m : Nat} {H : Ob} {C : Cx} : ∀ {p q : PV} {u : Value}, Rel w0 C w → Alike m H C.H → own m H p = some q → PRel C p u → ∃ C', Alike m H C'.H ∧ Froze w0 C C' w ∧ PRel C' q u ∧ idb q ≤ m
  | .hsl id ver off n, q, u, hR, hA, h, hp => by
    simp only [own] at h
    split at h
    · rename_i hlt
      injection h with h
      subst h
      exact ⟨C, hA, Froze.refl hR, hp, by simp only [idb]; omega⟩
    · rename_i hge
      obtain ⟨es, h1, h2⟩ := bnd_eq_some.1 h
      injection h2 with h2
      subst h2
      rw [← hA.2] at h1
      obtain ⟨C', g1, g2, g3⟩ := hsl_froze hR h1 hp
      exact ⟨C', by rw [g1]; exact hA.trans (alike_freeze (by omega)), g2, .s _ _ g3, Nat.zero_le _⟩
  | .ptr id off, q, u, hR, hA, h, hp => by
    simp only [own] at h
    split at h
    · injection h with h; subst h; exact ⟨C, hA, Froze.refl hR, hp, by simp only [idb]; omega⟩
    · cases h
  | .aptr id ver i off, q, u, hR, hA, h, hp => by
    simp only [own] at h
    split at h
    · injection h with h; subst h; exact ⟨C, hA, Froze.refl hR, hp, by simp only [idb]; omega⟩
    · cases h
  | .map id, q, u, hR, hA, h, hp => by
    simp only [own] at h
    split at h
    · injection h with h; subst h; exact ⟨C, hA, Froze.refl hR, hp, by simp only [idb]; omega⟩
    · cases h
  | .func f a b, q, u, hR, hA, h, hp => by
    simp only [own] at h
    obtain ⟨a', h1, h2⟩ := bnd_eq_some.1 h
    obtain ⟨b', h3, h4⟩ := bnd_eq_some.1 h2
    injection h4 with h4
    subst h4
    cases hp with
    | func f _ _ as bs k1 k2 k3 k4 =>
      obtain ⟨l1, C1, A1, f1, r1, i1⟩ := ownL_run (us := as.toList) hR hA h1 (by simpa using k1) (fun i p hi => by
        have := k2 i p hi
        simpa [Array.getD_eq_getD_getElem?, List.getD_eq_getElem?_getD] using this)
      obtain ⟨l2, C2, A2, f2, r2, i2⟩ := ownL_run (C := C1) (us := bs.toList) f1.rel A1 h3 (by simpa using k3) (fun i p hi => by
        have := f1.ext.rel (k4 i p hi)
        simpa [Array.getD_eq_getD_getElem?, List.getD_eq_getElem?_getD] using this)
      refine ⟨C2, A2, f1.trans f2, .func f _ _ _ _ (by simpa using l1) (fun i p hi => ?_) (by simpa using l2) (fun i p hi => ?_), by simp only [idb]; omega⟩
      · have := f2.ext.rel (r1 i p hi)
        simpa [Array.getD_eq_getD_getElem?, List.getD_eq_getElem?_getD] using this
      · have := r2 i p hi
        simpa [Array.getD_eq_getD_getElem?, List.getD_eq_getElem?_getD] using this
  | .iface t v, q, u, hR, hA, h, hp => by
    simp only [own] at h
    obtain ⟨v', h1, h2⟩ := bnd_eq_some.1 h
    injection h2 with h2
    subst h2
    cases hp with
    | iface _ _ u hp =>
      obtain ⟨C', g1, g2, g3, g4⟩ := own_run hR hA h1 hp
      exact ⟨C', g1, g2, .iface _ _ _ g3, by simp only [idb]; exact g4⟩
  | .agg cs, q, u, hR, hA, h, hp => by
    simp only [own] at h
    obtain ⟨cs', h1, h2⟩ := bnd_eq_some.1 h
    injection h2 with h2
    subst h2
    cases hp with
    | agg _ vs hl hr =>
      obtain ⟨l1, C1, A1, f1, r1, i1⟩ := ownL_run (us := vs.toList) hR hA h1 (by simpa using hl) (fun i p hi => by
        have := hr i p hi
        simpa [Array.getD_eq_getD_getElem?, List.getD_eq_getElem?_getD] using this)
      refine ⟨C1, A1, f1, .agg _ _ (by simpa using l1) (fun i p hi => ?_), by simp only [idb]; exact i1⟩
      have := r1 i p hi
      simpa [Array.getD_eq_getD_getElem?, List.getD_eq_getElem?_getD] using this
  | .tuple cs, q, u, hR, hA, h, hp => by
    simp only [own] at h
    obtain ⟨cs', h1, h2⟩ := bnd_eq_some.1 h
    injection h2 with h2
    subst h2
    cases hp with
    | tuple _ vs hl hr =>
      obtain ⟨l1, C1, A1, f1, r1, i1⟩ := ownL_run (us := vs.toList) hR hA h1 (by simpa using hl) (fun i p hi => by
        have := hr i p hi
        simpa [Array.getD_eq_getD_getElem?, List.getD_eq_getElem?_getD] using this)
      refine ⟨C1, A1, f1, .tuple _ _ (by simpa using l1) (fun i p hi => ?_), by simp only [idb]; exact i1⟩
      have := r1 i p hi
      simpa [Array.getD_eq_getD_getElem?, List.getD_eq_getElem?_getD] using this
  | .s v, q, u, hR, hA, h, hp => by
    simp only [own] at h
    injection h with h
    subst h
    exact ⟨C, hA, Froze.refl hR, hp, Nat.zero_le _⟩
  | .eptr es i off, q, u, hR, hA, h, hp => by
    simp only [own] at h
    injection h with h
    subst h
    exact ⟨C, hA, Froze.refl hR, hp, Nat.zero_le _⟩
theorem ownL_run {m : Nat} {H : Ob} {C : Cx} : ∀ {l q : List PV} {us : List Value}, Rel w0 C w → Alike m H C.H → ownL m H l = some q → l.length = us.length → (∀ (i : Nat) p, l[i]? = some p → PRel C p (us.getD i undef)) →
    q.length = us.length ∧ ∃ C', Alike m H C'.H ∧ Froze w0 C C' w ∧ (∀ (i : Nat) p, q[i]? = some p → PRel C' p (us.getD i undef)) ∧ idbL q ≤ m
  | [], q, us, hR, hA, h, hl, hr => by
    simp only [ownL] at h
    injection h with h
    subst h
    exact ⟨hl, C, hA, Froze.refl hR, fun i p hi => by simp at hi, Nat.zero_le _⟩
  | p :: r, q, [], hR, hA, h, hl, hr => by simp at hl
  | p :: r, q, u :: us, hR, hA, h, hl, hr => by
    simp only [ownL] at h
    obtain ⟨a, h1, h2⟩ := bnd_eq_some.1 h
    obtain ⟨b, h3, h4⟩ := bnd_eq_some.1 h2
    injection h4 with h4
    subst h4
    obtain ⟨C1, A1, f1, r1, i1⟩ := own_run hR hA h1 (hr 0 p rfl)
    obtain ⟨l2, C2, A2, f2, r2, i2⟩ := ownL_run (C := C1) f1.rel A1 h3 (by simpa using hl) (fun i p hi => f1.ext.rel (hr (i + 1) p hi))
    refine ⟨by simp [l2], C2, A2, f1.trans f2, fun i p hi => ?_, by simp only [idbL]; omega⟩
    cases i with
    | zero =>
      simp at hi
      subst hi
      exact f2.ext.rel r1
    | succ i => exact r2 i p hi
end
end
end Go.Vm
