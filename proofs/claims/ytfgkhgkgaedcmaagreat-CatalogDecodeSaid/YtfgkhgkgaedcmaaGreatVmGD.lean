/- A call by content: what is handed over, what comes back. -/
import Derived.Test.YtfgkhgkgaedcmaaGreatVmGC
section
set_option linter.unusedVariables false
set_option linter.unusedSimpArgs false
namespace Go.Vm
open Go.RowKit

section
variable {P : Program} {w w0 : World} {C : Cx}

theorem rowsOf_idb {p : PV} {H : Ob} {es : List (List SV)} (h : rowsOf H p = some es) : True := trivial
mutual
theorem lend_run {C : Cx} : ∀ {p q : PV} {H' : Ob} {u : Value}, Rel w0 C w → lend C.H p = some (q, H') → PRel C p u → ∃ C', C'.H = H' ∧ Froze w0 C C' w ∧ PRel C' q u
  | .hsl id ver off n, q, H', u, hR, h, hp => by
    simp only [lend] at h
    obtain ⟨es, h1, h2⟩ := bnd_eq_some.1 h
    injection h2 with h2
    injection h2 with h3 h4
    subst h3; subst h4
    obtain ⟨C', g1, g2, g3⟩ := hsl_froze hR h1 hp
    exact ⟨C', g1, g2, .s _ _ g3⟩
  | .agg cs, q, H', u, hR, h, hp => by
    simp only [lend] at h
    obtain ⟨r, h1, h2⟩ := bnd_eq_some.1 h
    injection h2 with h2
    injection h2 with h3 h4
    subst h3; subst h4
    cases hp with
    | agg _ vs hl hr =>
      obtain ⟨g0, C', g1, g2, g3⟩ := lendL_run (us := vs.toList) hR h1 (by simpa using hl) (fun i p hi => by
        have := hr i p hi
        simpa [Array.getD_eq_getD_getElem?, List.getD_eq_getElem?_getD] using this)
      refine ⟨C', g1, g2, .agg _ _ (by simpa using g0) (fun i p hi => ?_)⟩
      have := g3 i p hi
      simpa [Array.getD_eq_getD_getElem?, List.getD_eq_getElem?_getD] using this
  | .s v, q, H', u, hR, h, hp => by
    simp only [lend] at h
    injection h with h
    injection h with h3 h4
    subst h3; subst h4
    exact ⟨C, rfl, Froze.refl hR, hp⟩
  | .ptr id off, q, H', u, hR, h, hp => by
    simp only [lend] at h
    injection h with h
    injection h with h3 h4
    subst h3; subst h4
    exact ⟨C, rfl, Froze.refl hR, hp⟩
  | .eptr es i off, q, H', u, hR, h, hp => by
    simp only [lend] at h
    injection h with h
    injection h with h3 h4
    subst h3; subst h4
    exact ⟨C, rfl, Froze.refl hR, hp⟩
  | .aptr id ver i off, q, H', u, hR, h, hp => by
    simp only [lend] at h
    injection h with h
    injection h with h3 h4
    subst h3; subst h4
    exact ⟨C, rfl, Froze.refl hR, hp⟩
  | .func f a b, q, H', u, hR, h, hp => by
    simp only [lend] at h
    injection h with h
    injection h with h3 h4
    subst h3; subst h4
    exact ⟨C, rfl, Froze.refl hR, hp⟩
  | .iface t v, q, H', u, hR, h, hp => by
    simp only [lend] at h
    injection h with h
    injection h with h3 h4
    subst h3; subst h4
    exact ⟨C, rfl, Froze.refl hR, hp⟩
  | .map id, q, H', u, hR, h, hp => by
    simp only [lend] at h
    injection h with h
    injection h with h3 h4
    subst h3; subst h4
    exact ⟨C, rfl, Froze.refl hR, hp⟩
  | .tuple vs, q, H', u, hR, h, hp => by
    simp only [lend] at h
    injection h with h
    injection h with h3 h4
    subst h3; subst h4
    exact ⟨C, rfl, Froze.refl hR, hp⟩
theorem lendL_run {C : Cx} : ∀ {l q : List PV} {H' : Ob} {us : List Value}, Rel w0 C w → lendL C.H l = some (q, H') → l.length = us.length → (∀ (i : Nat) p, l[i]? = some p → PRel C p (us.getD i undef)) →
    q.length = us.length ∧ ∃ C', C'.H = H' ∧ Froze w0 C C' w ∧ ∀ (i : Nat) p, q[i]? = some p → PRel C' p (us.getD i undef)
  | [], q, H', us, hR, h, hl, hr => by
    simp only [lendL] at h
    injection h with h
    injection h with h1 h2
    subst h1; subst h2
    exact ⟨hl, C, rfl, Froze.refl hR, fun i p hi => by simp at hi⟩
  | p :: r, q, H', [], hR, h, hl, hr => by simp at hl
  | p :: r, q, H', u :: us, hR, h, hl, hr => by
    simp only [lendL] at h
    obtain ⟨a, h1, h2⟩ := bnd_eq_some.1 h
    obtain ⟨b, h3, h4⟩ := bnd_eq_some.1 h2
    injection h4 with h4
    injection h4 with e1 e2
    subst e1; subst e2
    obtain ⟨C1, hC1, hf1, hv⟩ := lend_run hR h1 (hr 0 p rfl)
    rw [← hC1] at h3
    obtain ⟨hq, C2, hC2, hf2, hs⟩ := lendL_run (C := C1) hf1.rel h3 (by simpa using hl) (fun i p hi => hf1.ext.rel (hr (i + 1) p hi))
    refine ⟨by simp [hq], C2, hC2, hf1.trans hf2, fun i p hi => ?_⟩
    cases i with
    | zero =>
      simp at hi
      subst hi
      exact hf2.ext.rel hv
    | succ i => exact hs i p hi
end

/-! ### the objects below a number -/
theorem firstO_length (H : Ob) : ∀ m, (firstO H m).length = m
  | 0 => rfl
  | m + 1 => by simp [firstO, firstO_length H m]
theorem firstO_get (H : Ob) : ∀ (m j : Nat), j < m → (firstO H m)[j]? = some (H j)
  | 0, j, h => by omega
  | m + 1, j, h => by
    simp only [firstO]
    by_cases e : j < m
    · rw [List.getElem?_append_left (by rw [firstO_length]; exact e)]
      exact firstO_get H m j e
    · have ej : j = m := by omega
      subst ej
      rw [List.getElem?_append_right (by rw [firstO_length]; omega), firstO_length]
      simp
def Ob.cut (H : Ob) (m : Nat) : Ob := fun j => if j < m then H j else .dead
theorem ofFirst (H : Ob) (m : Nat) : Ob.of (firstO H m) = H.cut m := by
  funext j
  unfold Ob.of Ob.cut
  rw [List.getD_eq_getElem?_getD]
  by_cases e : j < m
  · rw [if_pos e, firstO_get H m j e]; rfl
  · rw [if_neg e, List.getElem?_eq_none (by rw [firstO_length]; omega)]; rfl
def Cx.cut (C : Cx) (m : Nat) : Cx := { C with H := C.H.cut m }
theorem idbL_le {m : Nat} : ∀ {l : List PV}, idbL l ≤ m → ∀ (i : Nat) p, l[i]? = some p → idb p ≤ m
  | [], h, i, p, hi => by simp at hi
  | q :: r, h, i, p, hi => by
    simp only [idbL] at h
    cases i with
    | zero => simp at hi; subst hi; omega
    | succ i => exact idbL_le (by omega) i p hi
theorem PRel.cut {m : Nat} {p : PV} {v : Value} (h : PRel C p v) (hm : idb p ≤ m) : PRel (C.cut m) p v := by
  have hH : ∀ id, id + 1 ≤ m → (C.cut m).H id = C.H id := fun id h => if_pos (by omega)
  induction h with
  | s p v h => exact .s p v h
  | ptr id off ty cells h => simp only [idb] at hm; exact .ptr id off ty cells ((hH id hm).trans h)
  | eptr es i off a sz vs h1 h2 h5 h6 => exact .eptr es i off a sz vs h1 h2 h5 h6
  | aptr id ver i off ty sz cur fz ap es v h hv h1 he => simp only [idb] at hm; exact .aptr id ver i off ty sz cur fz ap es v ((hH id hm).trans h) hv h1 he
  | hsl id ver off n ty sz cur fz ap es v h hv h1 he => simp only [idb] at hm; exact .hsl id ver off n ty sz cur fz ap es v ((hH id hm).trans h) hv h1 he
  | func f first cap as bs h1 _ h3 _ ih1 ih2 =>
    simp only [idb] at hm
    exact .func f first cap as bs h1 (fun i p hi => ih1 i p hi (idbL_le (by omega) i p hi)) h3 (fun i p hi => ih2 i p hi (idbL_le (by omega) i p hi))
  | iface t p v _ ih => simp only [idb] at hm; exact .iface t p v (ih hm)
  | map id es h => simp only [idb] at hm; exact .map id es ((hH id hm).trans h)
  | agg cs vs h1 _ ih => simp only [idb] at hm; exact .agg cs vs h1 (fun i p hi => ih i p hi (idbL_le hm i p hi))
  | tuple cs vs h1 _ ih => simp only [idb] at hm; exact .tuple cs vs h1 (fun i p hi => ih i p hi (idbL_le hm i p hi))
theorem cut_alive {m id : Nat} (h : ((C.cut m).H id).alive = true) : id < m ∧ (C.H id).alive = true := by
  have e : (C.cut m).H id = if id < m then C.H id else .dead := rfl
  rw [e] at h
  split at h
  · rename_i hlt; exact ⟨hlt, h⟩
  · cases h
theorem Rel.cut {m : Nat} (hR : Rel w0 C w) (hm : ∀ j, j < m → idbO (C.H j) ≤ m) : Rel w0 (C.cut m) w := by
  refine Rel.ofObj hR.below hR.cell (fun id ha => hR.lt id (cut_alive ha).2) (fun i j hi hj e => hR.inj i j (cut_alive hi).2 (cut_alive hj).2 e) (fun id => ?_)
  by_cases e : id < m
  · have hH : (C.cut m).H id = C.H id := if_pos e
    have ho := hR.objOk id
    have hb := hm id e
    unfold ObjOk at ho ⊢
    rw [hH]
    cases hq : C.H id with
    | dead => trivial
    | box ty cells =>
      rw [hq] at ho hb
      obtain ⟨vs, h1, h2, h3, h4⟩ := ho
      simp only [idbO] at hb
      exact ⟨vs, h1, h2, fun j p hj => ⟨(h3 j p hj).1.cut (idbL_le hb j p hj), (h3 j p hj).2⟩, h4⟩
    | sarr ty sz ver fz ap es => rw [hq] at ho; exact ho
    | map es => rw [hq] at ho; exact ho
  · have hH : (C.cut m).H id = .dead := if_neg e
    unfold ObjOk
    rw [hH]
    trivial

/-! ### a result without the objects from m on -/
/-- The same objects below m; above, what was frozen in between. -/
def Alike (m : Nat) (H H' : Ob) : Prop := (∀ j, j < m → H' j = H j) ∧ ∀ p, rowsOf H' p = rowsOf H p
theorem alike_freeze {m id : Nat} {H : Ob} (h : m ≤ id) : Alike m H (freeze1 H id) := by
  have hj : ∀ j, j ≠ id → freeze1 H id j = H j := by
    intro j e
    unfold freeze1
    cases hq : H id <;> simp only [] <;> first | exact if_neg e | rfl
  refine ⟨fun j hlt => hj j (by omega), fun p => ?_⟩
  cases p <;> simp only [rowsOf]
  case s v => cases v <;> rfl
  case hsl i ver off n =>
  by_cases e : i = id
  · subst e
    unfold freeze1
    cases hq : H i with
    | sarr ty sz v fz ap es =>
      simp only []
      rw [show (Ob.set H i (.sarr ty sz v true ap es)) i = .sarr ty sz v true ap es from if_pos rfl]
    | _ => simp only [hq]
  · rw [hj i e]
theorem Alike.trans {m : Nat} {A B D : Ob} (h : Alike m A B) (h' : Alike m B D) : Alike m A D := ⟨fun j hj => (h'.1 j hj).trans (h.1 j hj), fun p => (h'.2 p).trans (h.2 p)⟩
theorem Alike.refl (m : Nat) (A : Ob) : Alike m A A := ⟨fun _ _ => rfl, fun _ => rfl⟩
mutual
theorem own_run {m : Nat} {H : Ob} {C : Cx} : ∀ {p q : PV} {u : Value}, Rel w0 C w → Alike m H C.H → own m H p = some q → PRel C p u → ∃ C', Alike m H C'.H ∧ Froze w0 C C' w ∧ PRel C' q u ∧ idb q ≤ m
  | .hsl id ver off n, q, u, hR, hA, h, hp => by
    simp only [own] at h
    split at h
    · rename_i hlt
      injection h with h
      subst h
      exact ⟨C, hA, Froze.refl hR, hp, by simp only [idb]; omega⟩
    · rename_i hge
      obtain ⟨es, h1, h2⟩ := bnd_eq_some.1 h
      injection h2 with h2
      subst h2
      rw [← hA.2] at h1
      obtain ⟨C', g1, g2, g3⟩ := hsl_froze hR h1 hp
      exact ⟨C', by rw [g1]; exact hA.trans (alike_freeze (by omega)), g2, .s _ _ g3, Nat.zero_le _⟩
  | .ptr id off, q, u, hR, hA, h, hp => by
    simp only [own] at h
    split at h
    · injection h with h; subst h; exact ⟨C, hA, Froze.refl hR, hp, by simp only [idb]; omega⟩
    · cases h
  | .aptr id ver i off, q, u, hR, hA, h, hp => by
    simp only [own] at h
    split at h
    · injection h with h; subst h; exact ⟨C, hA, Froze.refl hR, hp, by simp only [idb]; omega⟩
    · cases h
  | .map id, q, u, hR, hA, h, hp => by
    simp only [own] at h
    split at h
    · injection h with h; subst h; exact ⟨C, hA, Froze.refl hR, hp, by simp only [idb]; omega⟩
    · cases h
  | .func f a b, q, u, hR, hA, h, hp => by
    simp only [own] at h
    obtain ⟨a', h1, h2⟩ := bnd_eq_some.1 h
    obtain ⟨b', h3, h4⟩ := bnd_eq_some.1 h2
    injection h4 with h4
    subst h4
    cases hp with
    | func f _ _ as bs k1 k2 k3 k4 =>
      obtain ⟨l1, C1, A1, f1, r1, i1⟩ := ownL_run (us := as.toList) hR hA h1 (by simpa using k1) (fun i p hi => by
        have := k2 i p hi
        simpa [Array.getD_eq_getD_getElem?, List.getD_eq_getElem?_getD] using this)
      obtain ⟨l2, C2, A2, f2, r2, i2⟩ := ownL_run (C := C1) (us := bs.toList) f1.rel A1 h3 (by simpa using k3) (fun i p hi => by
        have := f1.ext.rel (k4 i p hi)
        simpa [Array.getD_eq_getD_getElem?, List.getD_eq_getElem?_getD] using this)
      refine ⟨C2, A2, f1.trans f2, .func f _ _ _ _ (by simpa using l1) (fun i p hi => ?_) (by simpa using l2) (fun i p hi => ?_), by simp only [idb]; omega⟩
      · have := f2.ext.rel (r1 i p hi)
        simpa [Array.getD_eq_getD_getElem?, List.getD_eq_getElem?_getD] using this
      · have := r2 i p hi
        simpa [Array.getD_eq_getD_getElem?, List.getD_eq_getElem?_getD] using this
  | .iface t v, q, u, hR, hA, h, hp => by
    simp only [own] at h
    obtain ⟨v', h1, h2⟩ := bnd_eq_some.1 h
    injection h2 with h2
    subst h2
    cases hp with
    | iface _ _ u hp =>
      obtain ⟨C', g1, g2, g3, g4⟩ := own_run hR hA h1 hp
      exact ⟨C', g1, g2, .iface _ _ _ g3, by simp only [idb]; exact g4⟩
  | .agg cs, q, u, hR, hA, h, hp => by
    simp only [own] at h
    obtain ⟨cs', h1, h2⟩ := bnd_eq_some.1 h
    injection h2 with h2
    subst h2
    cases hp with
    | agg _ vs hl hr =>
      obtain ⟨l1, C1, A1, f1, r1, i1⟩ := ownL_run (us := vs.toList) hR hA h1 (by simpa using hl) (fun i p hi => by
        have := hr i p hi
        simpa [Array.getD_eq_getD_getElem?, List.getD_eq_getElem?_getD] using this)
      refine ⟨C1, A1, f1, .agg _ _ (by simpa using l1) (fun i p hi => ?_), by simp only [idb]; exact i1⟩
      have := r1 i p hi
      simpa [Array.getD_eq_getD_getElem?, List.getD_eq_getElem?_getD] using this
  | .tuple cs, q, u, hR, hA, h, hp => by
    simp only [own] at h
    obtain ⟨cs', h1, h2⟩ := bnd_eq_some.1 h
    injection h2 with h2
    subst h2
    cases hp with
    | tuple _ vs hl hr =>
      obtain ⟨l1, C1, A1, f1, r1, i1⟩ := ownL_run (us := vs.toList) hR hA h1 (by simpa using hl) (fun i p hi => by
        have := hr i p hi
        simpa [Array.getD_eq_getD_getElem?, List.getD_eq_getElem?_getD] using this)
      refine ⟨C1, A1, f1, .tuple _ _ (by simpa using l1) (fun i p hi => ?_), by simp only [idb]; exact i1⟩
      have := r1 i p hi
      simpa [Array.getD_eq_getD_getElem?, List.getD_eq_getElem?_getD] using this
  | .s v, q, u, hR, hA, h, hp => by
    simp only [own] at h
    injection h with h
    subst h
    exact ⟨C, hA, Froze.refl hR, hp, Nat.zero_le _⟩
  | .eptr es i off, q, u, hR, hA, h, hp => by
    simp only [own] at h
    injection h with h
    subst h
    exact ⟨C, hA, Froze.refl hR, hp, Nat.zero_le _⟩
theorem ownL_run {m : Nat} {H : Ob} {C : Cx} : ∀ {l q : List PV} {us : List Value}, Rel w0 C w → Alike m H C.H → ownL m H l = some q → l.length = us.length → (∀ (i : Nat) p, l[i]? = some p → PRel C p (us.getD i undef)) →
    q.length = us.length ∧ ∃ C', Alike m H C'.H ∧ Froze w0 C C' w ∧ (∀ (i : Nat) p, q[i]? = some p → PRel C' p (us.getD i undef)) ∧ idbL q ≤ m
  | [], q, us, hR, hA, h, hl, hr => by
    simp only [ownL] at h
    injection h with h
    subst h
    exact ⟨hl, C, hA, Froze.refl hR, fun i p hi => by simp at hi, Nat.zero_le _⟩
  | p :: r, q, [], hR, hA, h, hl, hr => by simp at hl
  | p :: r, q, u :: us, hR, hA, h, hl, hr => by
    simp only [ownL] at h
    obtain ⟨a, h1, h2⟩ := bnd_eq_some.1 h
    obtain ⟨b, h3, h4⟩ := bnd_eq_some.1 h2
    injection h4 with h4
    subst h4
    obtain ⟨C1, A1, f1, r1, i1⟩ := own_run hR hA h1 (hr 0 p rfl)
    obtain ⟨l2, C2, A2, f2, r2, i2⟩ := ownL_run (C := C1) f1.rel A1 h3 (by simpa using hl) (fun i p hi => f1.ext.rel (hr (i + 1) p hi))
    refine ⟨by simp [l2], C2, A2, f1.trans f2, fun i p hi => ?_, by simp only [idbL]; omega⟩
    cases i with
    | zero =>
      simp at hi
      subst hi
      exact f2.ext.rel r1
    | succ i => exact r2 i p hi
end
end
end Go.Vm
end
section
set_option linter.unusedVariables false
set_option linter.unusedSimpArgs false
namespace Go.Vm
open Go.RowKit

def Tail (H : Ob) (next : Nat) : Prop := ∀ j, next ≤ j → H j = .dead
def OutRel (C : Cx) : Out → Ending → Prop
  | .ret v, .returned u => PRel C v u
  | .panic v, .panicked chain => ∃ u, chain = [{ v := u, recovered := false }] ∧ PRel C v u
  | _, _ => False
theorem OutRel.mono {C C' : Cx} (h : ∀ p v, PRel C p v → PRel C' p v) {o : Out} {e : Ending} (ho : OutRel C o e) : OutRel C' o e := by
  cases o <;> cases e <;> first
    | exact h _ _ ho
    | exact ho.elim
    | (obtain ⟨u, h1, h2⟩ := ho; exact ⟨u, h1, h _ _ h2⟩)
def ArgRel (C : Cx) (args : List PV) (vals : Array Value) : Prop := args.length = vals.size ∧ ∀ (i : Nat) p, args[i]? = some p → PRel C p (vals.getD i undef)
def Post (w0 : World) (C : Cx) (w : World) (o : Out) (H' : Ob) (next next' : Nat) (e : Ending) (w' : World) : Prop :=
  ∃ C', C'.H = H' ∧ Tail H' next' ∧ next ≤ next' ∧ Rel w0 C' w' ∧ Ext C w C' w' ∧ OutRel C' o e
def Base (F0 : Fix) (C : Cx) : Prop := ∀ b o v, F0 b o = some v → C.F b o = some v
theorem Base.ext {F0 : Fix} {C C' : Cx} {w w' : World} (h : Base F0 C) (hX : Ext C w C' w') : Base F0 C' := fun b o v hv => hX.F b o v (h b o v hv)
def FnOk (P : Program) (f : FuncId) : Prop := ∃ fn, P.funcs[f]? = some fn ∧ (fn.name == "runtime.NumGoroutine") = false ∧ fn.body.isNone = false
def RunOk (P : Program) (w0 : World) (F0 : Fix) (run : Run) : Prop :=
  ∀ f args H next o H' next', run f args H next = some (o, H', next') → FnOk P f ∧ ∀ (C : Cx) (w : World) (vals : Array Value), C.H = H → Tail H next → Rel w0 C w → Base F0 C → ArgRel C args vals →
    Calls P f vals w (Post w0 C w o H' next next')

section
variable {P : Program} {w w0 : World} {C : Cx}

theorem own_out {m : Nat} {H : Ob} {o o' : Out} {e : Ending} (hR : Rel w0 C w) (hA : Alike m H C.H) (h : ownOut m H o = some o') (ho : OutRel C o e) :
    ∃ C', Alike m H C'.H ∧ Froze w0 C C' w ∧ OutRel C' o' e ∧ (match o' with | .ret v => idb v ≤ m | .panic v => idb v ≤ m) := by
  cases o with
  | ret v =>
    simp only [ownOut] at h
    obtain ⟨v', h1, h2⟩ := bnd_eq_some.1 h
    injection h2 with h2
    subst h2
    cases e <;> try exact ho.elim
    obtain ⟨C', g1, g2, g3, g4⟩ := own_run hR hA h1 ho
    exact ⟨C', g1, g2, g3, g4⟩
  | panic v =>
    simp only [ownOut] at h
    obtain ⟨v', h1, h2⟩ := bnd_eq_some.1 h
    injection h2 with h2
    subst h2
    cases e <;> try exact ho.elim
    obtain ⟨u, hu, hv⟩ := ho
    obtain ⟨C', g1, g2, g3, g4⟩ := own_run hR hA h1 hv
    exact ⟨C', g1, g2, ⟨u, hu, g3⟩, g4⟩
/-- What an object has become. -/
def Owned (w : World) (m : Nat) (C : Cx) (j : Nat) (o o' : HObj) : Prop :=
  match o with
  | .box ty cells => ∃ cells' vs, o' = .box ty cells' ∧ w.heap[C.σ j]? = some (.cells vs ty (0, 0)) ∧ vs.size = cells'.length ∧ (∀ (i : Nat) p, cells'[i]? = some p → PRel C p (vs.getD i undef) ∧ (vs.getD i undef).oneCell' = true) ∧ idbL cells' ≤ m
  | o => o' = o
theorem Owned.froze {m j : Nat} {C C' : Cx} {o o' : HObj} (h : Owned w m C j o o') (hf : Froze w0 C C' w) : Owned w m C' j o o' := by
  unfold Owned at h ⊢
  cases o with
  | box ty cells =>
    obtain ⟨c, vs, h1, h2, h3, h4, h5⟩ := h
    exact ⟨c, vs, h1, by rw [hf.σ]; exact h2, h3, fun i p hi => ⟨hf.ext.rel (h4 i p hi).1, (h4 i p hi).2⟩, h5⟩
  | dead => exact h
  | sarr ty sz ver fz ap es => exact h
  | map es => exact h
theorem own_objs {m : Nat} {H : Ob} : ∀ {l q : List HObj} {k : Nat} {C : Cx}, Rel w0 C w → Alike m H C.H → ownObjs m H l = some q → (∀ (i : Nat) o, l[i]? = some o → o = H (k + i) ∧ k + i < m) →
    q.length = l.length ∧ ∃ C', Alike m H C'.H ∧ Froze w0 C C' w ∧ ∀ (i : Nat) o', q[i]? = some o' → Owned w m C' (k + i) (H (k + i)) o'
  | [], q, k, C, hR, hA, h, hl => by
    simp only [ownObjs] at h
    injection h with h
    subst h
    exact ⟨rfl, C, hA, Froze.refl hR, fun i o' hi => by simp at hi⟩
  | o :: l, q, k, C, hR, hA, h, hl => by
    simp only [ownObjs] at h
    obtain ⟨o1, h1, h2⟩ := bnd_eq_some.1 h
    obtain ⟨q1, h3, h4⟩ := bnd_eq_some.1 h2
    injection h4 with h4
    subst h4
    obtain ⟨ho, hk⟩ := hl 0 o rfl
    rw [Nat.add_zero] at ho hk
    have step : ∃ C1, Alike m H C1.H ∧ Froze w0 C C1 w ∧ Owned w m C1 k (H k) o1 := by
      rw [← ho]
      cases hob : o with
      | box ty cells =>
        rw [hob] at h1
        simp only [ownObj] at h1
        obtain ⟨c, g1, g2⟩ := bnd_eq_some.1 h1
        split at g2
        · rename_i hc
          injection g2 with g2
          subst g2
          have hCk : C.H k = .box ty cells := by rw [hA.1 k hk, ← ho, hob]
          obtain ⟨vs, k1, k2, k3, k4⟩ := hR.box k ty cells hCk
          obtain ⟨l1, C1, A1, f1, r1, i1⟩ := ownL_run (us := vs.toList) hR hA g1 (by simpa using k2.symm) (fun i p hi => by
            have := (k3 i p hi).1
            simpa [Array.getD_eq_getD_getElem?, List.getD_eq_getElem?_getD] using this)
          refine ⟨C1, A1, f1, c, vs, rfl, by rw [f1.σ]; exact k1, by simpa using l1.symm, fun i p hi => ?_, i1⟩
          have h5 := r1 i p hi
          have h6 : PRel C1 p (vs.getD i undef) := by simpa [Array.getD_eq_getD_getElem?, List.getD_eq_getElem?_getD] using h5
          exact ⟨h6, h6.one (List.all_eq_true.1 hc p (List.mem_of_getElem? hi))⟩
        · cases g2
      | dead => rw [hob] at h1; simp only [ownObj] at h1; injection h1 with h1; subst h1; exact ⟨C, hA, Froze.refl hR, rfl⟩
      | sarr ty sz ver fz ap es => rw [hob] at h1; simp only [ownObj] at h1; injection h1 with h1; subst h1; exact ⟨C, hA, Froze.refl hR, rfl⟩
      | map es => rw [hob] at h1; simp only [ownObj] at h1; injection h1 with h1; subst h1; exact ⟨C, hA, Froze.refl hR, rfl⟩
    obtain ⟨C1, A1, f1, r1⟩ := step
    obtain ⟨l2, C2, A2, f2, r2⟩ := own_objs (k := k + 1) f1.rel A1 h3 (fun i o hi => by
      have := hl (i + 1) o hi
      rw [show k + 1 + i = k + (i + 1) from by omega]
      exact this)
    refine ⟨by simp [l2], C2, A2, f1.trans f2, fun i o' hi => ?_⟩
    cases i with
    | zero =>
      simp at hi
      subst hi
      exact r1.froze f2
    | succ i =>
      rw [show k + (i + 1) = k + 1 + i from by omega]
      exact r2 i o' hi
theorem back_nil (H : Ob) : H.back [] = H := by
  funext j
  unfold Ob.back
  simp

/-- The caller's objects and what the call made of those that it was handed. -/
theorem join_back {m : Nat} {C1 Cf : Cx} {w w2 : World} {l : List HObj} {H2 : Ob} (hR1 : Rel w0 C1 w) (hRf : Rel w0 Cf w2) (hX : Ext (C1.cut m) w Cf w2) (hl : l.length = m) (hA : Alike m H2 Cf.H)
    (hO : ∀ (j : Nat) o', l[j]? = some o' → Owned w2 m Cf j (H2 j) o') :
    ∃ C', C'.H = C1.H.back l ∧ Rel w0 C' w2 ∧ Ext C1 w C' w2 ∧ ∀ p v, idb p ≤ m → PRel Cf p v → PRel C' p v := by
  let C' : Cx := { σ := fun j => if j < m then Cf.σ j else C1.σ j, cap := fun j => if j < m then Cf.cap j else C1.cap j, F := Cf.F, H := C1.H.back l }
  have hlt : ∀ j, j < m → C'.H j = l.getD j .dead ∧ C'.σ j = Cf.σ j ∧ C'.cap j = Cf.cap j := fun j h => ⟨if_pos (by omega), if_pos h, if_pos h⟩
  have hge : ∀ j, ¬ j < m → C'.H j = C1.H j ∧ C'.σ j = C1.σ j ∧ C'.cap j = C1.cap j := fun j h => ⟨if_neg (by omega), if_neg h, if_neg h⟩
  have hcut : ∀ j, j < m → (C1.cut m).H j = C1.H j := fun j h => if_pos h
  have hown : ∀ j, j < m → Owned w2 m Cf j (Cf.H j) (C'.H j) := by
    intro j h
    have h1 : l[j]? = some (l.getD j .dead) := by simp [List.getD_eq_getElem?_getD, show j < l.length by omega]
    have := hO j _ h1
    rw [← hA.1 j h] at this
    rw [(hlt j h).1]
    exact this
  have hk1 : ∀ j, j < m → Keeps Cf C' j := by
    intro j h
    obtain ⟨_, e2, e3⟩ := hlt j h
    have := hown j h
    unfold Owned at this
    unfold Keeps
    cases hb : Cf.H j with
    | dead => trivial
    | box ty cells => rw [hb] at this; obtain ⟨c, vs, g1, _⟩ := this; exact ⟨c, g1, e2⟩
    | sarr ty sz ver fz ap es => rw [hb] at this; exact ⟨ver, fz, es, this, Nat.le_refl _, fun _ => ⟨e2, e3, rfl⟩⟩
    | map es => rw [hb] at this; exact ⟨es, this, e2⟩
  have hk : ∀ j, Keeps C1 C' j := by
    intro j
    by_cases h : j < m
    · have h1 : Keeps C1 (C1.cut m) j := by
        unfold Keeps
        have := hcut j h
        cases hb : C1.H j with
        | dead => trivial
        | box ty cells => exact ⟨cells, this.trans hb, rfl⟩
        | sarr ty sz ver fz ap es => exact ⟨ver, fz, es, this.trans hb, Nat.le_refl _, fun _ => ⟨rfl, rfl, rfl⟩⟩
        | map es => exact ⟨es, this.trans hb, rfl⟩
      exact (h1.trans (hX.keep j)).trans (hk1 j h)
    · obtain ⟨e1, e2, e3⟩ := hge j h
      unfold Keeps
      cases hb : C1.H j with
      | dead => trivial
      | box ty cells => exact ⟨cells, e1.trans hb, e2⟩
      | sarr ty sz ver fz ap es => exact ⟨ver, fz, es, e1.trans hb, Nat.le_refl _, fun _ => ⟨e2, e3, rfl⟩⟩
      | map es => exact ⟨es, e1.trans hb, e2⟩
  have hkc : ∀ j, Keeps (Cf.cut m) C' j := by
    intro j
    by_cases h : j < m
    · have e : (Cf.cut m).H j = Cf.H j := if_pos h
      have := hk1 j h
      unfold Keeps at this ⊢
      rw [e]
      exact this
    · have e : (Cf.cut m).H j = .dead := if_neg h
      unfold Keeps
      rw [e]
      trivial
  have hal : ∀ j, j < m → (C'.H j).alive = true → (Cf.H j).alive = true := by
    intro j h ha
    have := hown j h
    unfold Owned at this
    cases hb : Cf.H j with
    | dead => rw [hb] at this; rw [this] at ha; cases ha
    | box ty cells => rfl
    | sarr ty sz ver fz ap es => rfl
    | map es => rfl
  have hp : ∀ p v, idb p ≤ m → PRel Cf p v → PRel C' p v := fun p v hi hq => PRel.keep hkc rfl (hq.cut hi)
  have hapart : ∀ i j, i < m → ¬ j < m → (C'.H i).alive = true → (C1.H j).alive = true → Cf.σ i ≠ C1.σ j := by
    intro i j hi hj ha hb e
    rcases hX.fresh i (hal i hi ha) with ⟨id0, h0, e0⟩ | h0
    · obtain ⟨h1, h2⟩ := cut_alive h0
      have e1 : C1.σ id0 = C1.σ j := e0.symm.trans e
      have := hR1.inj id0 j h2 hb e1
      omega
    · have := (hR1.lt j hb).2
      omega
  refine ⟨C', rfl, Rel.ofObj hRf.below hRf.cell (fun j ha => ?_) (fun i j hi hj e => ?_) (fun j => ?_), ⟨hX.F, hk, fun b hb hn => hX.frame b hb (fun id ha e => hn id (cut_alive ha).2 e), fun j ha => ?_, hX.size, fun b o v hv => ?_⟩, hp⟩
  · by_cases h : j < m
    · rw [(hlt j h).2.1]
      exact hRf.lt j (hal j h ha)
    · obtain ⟨e1, e2, _⟩ := hge j h
      rw [e1] at ha
      rw [e2]
      have := hR1.lt j ha
      exact ⟨this.1, Nat.lt_of_lt_of_le this.2 hX.size⟩
  · by_cases h1 : i < m <;> by_cases h2 : j < m
    · rw [(hlt i h1).2.1, (hlt j h2).2.1] at e
      exact hRf.inj i j (hal i h1 hi) (hal j h2 hj) e
    · obtain ⟨e1, e2, _⟩ := hge j h2
      rw [e1] at hj
      rw [(hlt i h1).2.1, e2] at e
      exact absurd e (hapart i j h1 h2 hi hj)
    · obtain ⟨e1, e2, _⟩ := hge i h1
      rw [e1] at hi
      rw [(hlt j h2).2.1, e2] at e
      exact absurd e.symm (hapart j i h2 h1 hj hi)
    · obtain ⟨e1, e2, _⟩ := hge i h1
      obtain ⟨e3, e4, _⟩ := hge j h2
      rw [e1] at hi
      rw [e3] at hj
      rw [e2, e4] at e
      exact hR1.inj i j hi hj e
  · by_cases h : j < m
    · obtain ⟨e1, e2, e3⟩ := hlt j h
      have ho := hown j h
      have hok := hRf.objOk j
      unfold Owned at ho
      unfold ObjOk at hok ⊢
      rw [e2, e3]
      cases hb : Cf.H j with
      | dead => rw [hb] at ho; rw [ho]; trivial
      | box ty cells =>
        rw [hb] at ho hok
        obtain ⟨c, vs, g1, g2, g3, g4, g5⟩ := ho
        obtain ⟨_, _, _, _, g6⟩ := hok
        rw [g1]
        exact ⟨vs, g2, g3, fun i p hi => ⟨hp p _ (idbL_le g5 i p hi) (g4 i p hi).1, (g4 i p hi).2⟩, g6⟩
      | sarr ty sz ver fz ap es => rw [hb] at ho hok; rw [ho]; exact hok
      | map es => rw [hb] at ho hok; rw [ho]; exact hok
    · obtain ⟨e1, e2, e3⟩ := hge j h
      by_cases ha : (C1.H j).alive = true
      · have hlj := hR1.lt j ha
        have hne : ∀ id, ((C1.cut m).H id).alive = true → (C1.cut m).σ id ≠ C1.σ j := by
          intro id hid e
          obtain ⟨h1, h2⟩ := cut_alive hid
          have := hR1.inj id j h2 ha e
          omega
        refine (hR1.objOk j).move e1 e2 e3 (hX.frame _ hlj.2 hne) hX.F (fun o => ?_) hk
        cases hq : C1.F (C1.σ j) o with
        | some v => exact hX.F _ _ _ hq
        | none =>
          show Cf.F (C1.σ j) o = none
          cases hv : Cf.F (C1.σ j) o with
          | none => rfl
          | some v =>
            rcases hX.Fnew _ _ _ hv with h1 | h1 | ⟨id, h1, h2⟩
            · have h1' : C1.F (C1.σ j) o = some v := h1
              rw [hq] at h1'
              cases h1'
            · omega
            · exact absurd h2 (hne id h1)
      · have hd : C1.H j = .dead := by
          cases hb : C1.H j <;> rw [hb] at ha <;> first | rfl | exact absurd rfl ha
        unfold ObjOk
        rw [e1, hd]
        trivial
  · by_cases h : j < m
    · rw [(hlt j h).2.1]
      rcases hX.fresh j (hal j h ha) with ⟨id0, h0, e0⟩ | h0
      · exact .inl ⟨id0, (cut_alive h0).2, e0⟩
      · exact .inr h0
    · obtain ⟨e1, e2, _⟩ := hge j h
      rw [e1] at ha
      exact .inl ⟨j, ha, e2⟩
  · rcases hX.Fnew b o v hv with h1 | h1 | ⟨id, h1, h2⟩
    · exact .inl h1
    · exact .inr (.inl h1)
    · exact .inr (.inr ⟨id, (cut_alive h1).2, h2⟩)

theorem freeze1_dead {H : Ob} {id j : Nat} (h : H j = .dead) : freeze1 H id j = .dead := by
  unfold freeze1
  by_cases e : j = id
  · subst e
    rw [h]
    exact h
  · cases hq : H id <;> simp only [] <;> first | exact h | (show (if j = id then _ else H j) = _; rw [if_neg e]; exact h)
mutual
theorem lend_dead {j : Nat} : ∀ {p q : PV} {H H' : Ob}, lend H p = some (q, H') → H j = .dead → H' j = .dead
  | .hsl id ver off n, q, H, H', h, hd => by
    simp only [lend] at h
    obtain ⟨es, h1, h2⟩ := bnd_eq_some.1 h
    injection h2 with h2
    injection h2 with h3 h4
    subst h4
    exact freeze1_dead hd
  | .agg cs, q, H, H', h, hd => by
    simp only [lend] at h
    obtain ⟨r, h1, h2⟩ := bnd_eq_some.1 h
    injection h2 with h2
    injection h2 with h3 h4
    subst h4
    exact lendL_dead (q := r.1) h1 hd
  | .s _, q, H, H', h, hd => by simp only [lend] at h; injection h with h; injection h with h3 h4; subst h4; exact hd
  | .ptr _ _, q, H, H', h, hd => by simp only [lend] at h; injection h with h; injection h with h3 h4; subst h4; exact hd
  | .eptr _ _ _, q, H, H', h, hd => by simp only [lend] at h; injection h with h; injection h with h3 h4; subst h4; exact hd
  | .aptr _ _ _ _, q, H, H', h, hd => by simp only [lend] at h; injection h with h; injection h with h3 h4; subst h4; exact hd
  | .func _ _ _, q, H, H', h, hd => by simp only [lend] at h; injection h with h; injection h with h3 h4; subst h4; exact hd
  | .iface _ _, q, H, H', h, hd => by simp only [lend] at h; injection h with h; injection h with h3 h4; subst h4; exact hd
  | .map _, q, H, H', h, hd => by simp only [lend] at h; injection h with h; injection h with h3 h4; subst h4; exact hd
  | .tuple _, q, H, H', h, hd => by simp only [lend] at h; injection h with h; injection h with h3 h4; subst h4; exact hd
theorem lendL_dead {j : Nat} : ∀ {l q : List PV} {H H' : Ob}, lendL H l = some (q, H') → H j = .dead → H' j = .dead
  | [], q, H, H', h, hd => by
    simp only [lendL] at h
    injection h with h
    injection h with h1 h2
    subst h2
    exact hd
  | p :: r, q, H, H', h, hd => by
    simp only [lendL] at h
    obtain ⟨a, h1, h2⟩ := bnd_eq_some.1 h
    obtain ⟨b, h3, h4⟩ := bnd_eq_some.1 h2
    injection h4 with h4
    injection h4 with e1 e2
    subst e2
    exact lendL_dead (q := b.1) h3 (lend_dead (q := a.1) h1 hd)
end
theorem Froze.extOf {C C1 C2 : Cx} {w w1 : World} (h : Ext C w C1 w1) (h' : Froze w0 C1 C2 w1) : Ext C w C2 w1 := h.trans h'.ext
end
end Go.Vm
end
section
set_option linter.unusedVariables false
set_option linter.unusedSimpArgs false
namespace Go.Vm
open Go.RowKit

/-! ### other numbers -/
/-- One object under two numbers. -/
def Twin (C : Cx) (id : Nat) (C' : Cx) (k : Nat) : Prop :=
  match C.H id with
  | .dead => True
  | .box ty cells => ∃ cells', C'.H k = .box ty cells' ∧ C'.σ k = C.σ id
  | .sarr ty sz ver fz ap es => ∃ fz' es', C'.H k = .sarr ty sz ver fz' ap es' ∧ C'.σ k = C.σ id ∧ C'.cap k = C.cap id ∧ es'.length = es.length
  | .map es => ∃ es', C'.H k = .map es' ∧ C'.σ k = C.σ id
theorem renL_get {g : Nat → Option Nat} : ∀ {l q : List PV}, renL g l = some q → q.length = l.length ∧ ∀ (i : Nat) p, q[i]? = some p → ∃ p0, l[i]? = some p0 ∧ ren g p0 = some p
  | [], q, h => by
    simp only [renL] at h
    injection h with h
    subst h
    exact ⟨rfl, fun i p hi => by simp at hi⟩
  | a :: l, q, h => by
    simp only [renL] at h
    obtain ⟨b, h1, h2⟩ := bnd_eq_some.1 h
    obtain ⟨r, h3, h4⟩ := bnd_eq_some.1 h2
    injection h4 with h4
    subst h4
    obtain ⟨k1, k2⟩ := renL_get h3
    refine ⟨by simp [k1], fun i p hi => ?_⟩
    cases i with
    | zero =>
      simp at hi
      subst hi
      exact ⟨a, rfl, h1⟩
    | succ i => exact k2 i p hi
theorem ren_rel {C C' : Cx} {g : Nat → Option Nat} (hF : ∀ b o v, C.F b o = some v → C'.F b o = some v) (ht : ∀ id k, g id = some k → Twin C id C' k) {p : PV} {v : Value} (h : PRel C p v) : ∀ {q : PV}, ren g p = some q → PRel C' q v := by
  induction h with
  | s p v h => intro q e; simp only [ren] at e; injection e with e; subst e; exact .s _ _ (h.mono hF)
  | ptr id off ty cells h =>
    intro q e
    simp only [ren] at e
    obtain ⟨k, h1, h2⟩ := bnd_eq_some.1 e
    injection h2 with h2
    subst h2
    have := ht id k h1
    unfold Twin at this
    rw [h] at this
    obtain ⟨c', e1, e2⟩ := this
    rw [← e2]
    exact .ptr k off ty c' e1
  | eptr es i off a sz vs h1 h2 h5 h6 =>
    intro q e
    simp only [ren] at e
    injection e with e
    subst e
    exact .eptr es i off a sz vs h1 h2 (fun i c j p hi hj => hF _ _ _ (h5 i c j p hi hj)) (fun i c j p hi hj => (h6 i c j p hi hj).mono hF)
  | aptr id ver i off ty sz cur fz ap es v h hv h1 he =>
    intro q e
    simp only [ren] at e
    obtain ⟨k, g1, h2⟩ := bnd_eq_some.1 e
    injection h2 with h2
    subst h2
    have := ht id k g1
    unfold Twin at this
    rw [h] at this
    obtain ⟨fz', es', e1, e2, e3, e4⟩ := this
    refine .aptr k ver i off ty sz cur fz' ap es' v e1 hv h1 (fun e => ?_)
    rw [e2]
    exact he e
  | hsl id ver off n ty sz cur fz ap es v h hv h1 he =>
    intro q e
    simp only [ren] at e
    obtain ⟨k, g1, h2⟩ := bnd_eq_some.1 e
    injection h2 with h2
    subst h2
    have := ht id k g1
    unfold Twin at this
    rw [h] at this
    obtain ⟨fz', es', e1, e2, e3, e4⟩ := this
    refine .hsl k ver off n ty sz cur fz' ap es' v e1 hv h1 (fun e => ?_)
    rw [e2, e3, e4]
    exact he e
  | func f first cap as bs h1 _ h3 _ ih1 ih2 =>
    intro q e
    simp only [ren] at e
    obtain ⟨a, g1, e⟩ := bnd_eq_some.1 e
    obtain ⟨b, g2, e⟩ := bnd_eq_some.1 e
    injection e with e
    subst e
    obtain ⟨l1, r1⟩ := renL_get g1
    obtain ⟨l2, r2⟩ := renL_get g2
    refine .func f a b as bs (l1.trans h1) (fun i p hi => ?_) (l2.trans h3) (fun i p hi => ?_)
    · obtain ⟨p0, k1, k2⟩ := r1 i p hi
      exact ih1 i p0 k1 k2
    · obtain ⟨p0, k1, k2⟩ := r2 i p hi
      exact ih2 i p0 k1 k2
  | iface t p v _ ih =>
    intro q e
    simp only [ren] at e
    obtain ⟨a, g1, e⟩ := bnd_eq_some.1 e
    injection e with e
    subst e
    exact .iface t a v (ih g1)
  | map id es h =>
    intro q e
    simp only [ren] at e
    obtain ⟨k, g1, h2⟩ := bnd_eq_some.1 e
    injection h2 with h2
    subst h2
    have := ht id k g1
    unfold Twin at this
    rw [h] at this
    obtain ⟨es', e1, e2⟩ := this
    rw [← e2]
    exact .map k es' e1
  | agg cs vs h1 _ ih =>
    intro q e
    simp only [ren] at e
    obtain ⟨a, g1, e⟩ := bnd_eq_some.1 e
    injection e with e
    subst e
    obtain ⟨l1, r1⟩ := renL_get g1
    refine .agg a vs (l1.trans h1) (fun i p hi => ?_)
    obtain ⟨p0, k1, k2⟩ := r1 i p hi
    exact ih i p0 k1 k2
  | tuple cs vs h1 _ ih =>
    intro q e
    simp only [ren] at e
    obtain ⟨a, g1, e⟩ := bnd_eq_some.1 e
    injection e with e
    subst e
    obtain ⟨l1, r1⟩ := renL_get g1
    refine .tuple a vs (l1.trans h1) (fun i p hi => ?_)
    obtain ⟨p0, k1, k2⟩ := r1 i p hi
    exact ih i p0 k1 k2
/-- What refers to no object stands anywhere. -/
theorem PRel.of0 {C C' : Cx} (hF : ∀ b o v, C.F b o = some v → C'.F b o = some v) {p : PV} {v : Value} (h : PRel C p v) (h0 : idb p = 0) : PRel C' p v :=
  PRel.mono (C := C.cut 0) (C' := C') hF (fun id => by
    unfold Keeps
    have e : (C.cut 0).H id = .dead := (if_neg (Nat.not_lt_zero id) : (if id < 0 then C.H id else .dead) = .dead)
    rw [e]
    trivial) (h.cut (m := 0) (by omega))

/-! ### the list of numbers -/
theorem addN_mem {l : List Nat} {x y : Nat} : y ∈ addN l x ↔ y ∈ l ∨ y = x := by
  unfold addN
  split
  · rename_i h
    have : x ∈ l := by simpa using h
    exact ⟨.inl, fun h => h.elim id (fun e => e ▸ this)⟩
  · simp
theorem addN_nodup {l : List Nat} {x : Nat} (h : l.Nodup) : (addN l x).Nodup := by
  unfold addN
  split
  · exact h
  · rename_i hx
    rw [List.nodup_append]
    refine ⟨h, by simp, ?_⟩
    intro a ha b hb e
    simp at hb
    subst hb
    subst e
    exact hx (by simpa using ha)
theorem foldl_addN : ∀ {xs l : List Nat}, l.Nodup → (xs.foldl addN l).Nodup ∧ ∀ y, y ∈ xs.foldl addN l ↔ y ∈ l ∨ y ∈ xs
  | [], l, h => ⟨h, fun y => by simp⟩
  | x :: xs, l, h => by
    obtain ⟨h1, h2⟩ := foldl_addN (xs := xs) (addN_nodup (x := x) h)
    refine ⟨h1, fun y => ?_⟩
    show y ∈ xs.foldl addN (addN l x) ↔ _
    rw [h2 y, addN_mem, List.mem_cons, or_assoc]
theorem ids_nodup (args : List PV) : (idsOf args).Nodup := (foldl_addN (List.nodup_nil)).1
theorem ids_mem {args : List PV} {j : Nat} : j ∈ idsOf args ↔ j ∈ args.flatMap headsA := by
  unfold idsOf
  rw [(foldl_addN (List.nodup_nil)).2 j]
  simp
theorem idx_some : ∀ {l : List Nat} {x i k : Nat}, idxOf l x i = some k → ∃ j, k = i + j ∧ l[j]? = some x
  | [], x, i, k, h => by cases h
  | a :: r, x, i, k, h => by
    simp only [idxOf] at h
    split at h
    · rename_i e
      injection h with h
      subst h; subst e
      exact ⟨0, rfl, rfl⟩
    · obtain ⟨j, h1, h2⟩ := idx_some h
      exact ⟨j + 1, by omega, h2⟩
theorem idx_none : ∀ {l : List Nat} {x i : Nat}, idxOf l x i = none → x ∉ l
  | [], x, i, h, hx => by cases hx
  | a :: r, x, i, h, hx => by
    simp only [idxOf] at h
    split at h
    · cases h
    · rename_i e
      rcases List.mem_cons.1 hx with e2 | hx
      · exact e e2.symm
      · exact idx_none h hx
theorem idx_of : ∀ {l : List Nat} {x i j : Nat}, l.Nodup → l[j]? = some x → idxOf l x i = some (i + j)
  | [], x, i, j, _, h => by simp at h
  | a :: r, x, i, 0, _, h => by
    simp at h
    simp only [idxOf]
    rw [if_pos h]
    rfl
  | a :: r, x, i, j + 1, hn, h => by
    have h : r[j]? = some x := h
    have hn := List.nodup_cons.1 hn
    simp only [idxOf]
    rw [if_neg (fun e => hn.1 (by rw [e]; exact List.mem_of_getElem? h)), idx_of hn.2 h]
    congr 1
    omega
theorem setL_at : ∀ {ids : List Nat} {l : List HObj} {H : Ob} {j : Nat}, ids.Nodup → l.length = ids.length → setL H ids l j = match idxOf ids j 0 with
    | some i => l.getD i .dead
    | none => H j := by
  have gen : ∀ {ids : List Nat} {l : List HObj} {H : Ob} {j i0 : Nat}, ids.Nodup → l.length = ids.length → setL H ids l j = match idxOf ids j i0 with
    | some i => l.getD (i - i0) .dead
    | none => H j := by
    intro ids
    induction ids with
    | nil =>
      intro l H j i0 _ hl
      cases l with
      | nil => rfl
      | cons => simp at hl
    | cons a r ih =>
      intro l H j i0 hn hl
      cases l with
      | nil => simp at hl
      | cons o q =>
        have hn := List.nodup_cons.1 hn
        simp only [setL, idxOf]
        rw [ih (i0 := i0 + 1) hn.2 (by simpa using hl)]
        by_cases e : a = j
        · rw [if_pos e]
          have : idxOf r j (i0 + 1) = none := by
            cases hx : idxOf r j (i0 + 1) with
            | none => rfl
            | some k =>
              obtain ⟨j', _, h2⟩ := idx_some hx
              exact absurd (List.mem_of_getElem? h2) (e ▸ hn.1)
          rw [this]
          simp only [Nat.sub_self]
          show (H.set a o) j = _
          unfold Ob.set
          rw [if_pos e.symm]
          rfl
        · rw [if_neg e]
          cases hx : idxOf r j (i0 + 1) with
          | none =>
            simp only
            unfold Ob.set
            rw [if_neg (fun h => e h.symm)]
          | some k =>
            obtain ⟨j', h1, h2⟩ := idx_some hx
            simp only
            have : k - i0 = (k - (i0 + 1)) + 1 := by omega
            rw [this]
            rfl
  intro ids l H j hn hl
  have := gen (i0 := 0) (H := H) (j := j) hn hl
  simpa using this

section
variable {P : Program} {w w0 : World} {C : Cx}
/-- The callee's objects. -/
def Cx.local (C : Cx) (ids : List Nat) : Cx := { σ := fun k => C.σ (ids.getD k 0), cap := fun k => C.cap (ids.getD k 0), F := C.F, H := Ob.of (ids.map C.H) }
theorem local_at {ids : List Nat} {k : Nat} (h : k < ids.length) : (C.local ids).H k = C.H (ids.getD k 0) := by
  show (ids.map C.H).getD k .dead = _
  rw [List.getD_eq_getElem?_getD, List.getElem?_map, List.getElem?_eq_getElem h, List.getD_eq_getElem?_getD, List.getElem?_eq_getElem h]
  rfl
theorem local_out {ids : List Nat} {k : Nat} (h : ¬ k < ids.length) : (C.local ids).H k = .dead := by
  show (ids.map C.H).getD k .dead = _
  rw [List.getD_eq_getElem?_getD, List.getElem?_eq_none (by simp; omega)]
  rfl
theorem idb0 {cells : List PV} (h : idbL cells = 0) (i : Nat) (p : PV) (hi : cells[i]? = some p) : idb p = 0 := Nat.le_zero.1 (idbL_le (m := 0) (by omega) i p hi)
theorem Rel.local {ids : List Nat} (hR : Rel w0 C w) (hn : ids.Nodup) (hi : ∀ id ∈ ids, locOk (C.H id) = true) : Rel w0 (C.local ids) w := by
  have al : ∀ k, ((C.local ids).H k).alive = true → ∃ h : k < ids.length, (C.H (ids.getD k 0)).alive = true := by
    intro k h
    by_cases hk : k < ids.length
    · rw [local_at hk] at h
      exact ⟨hk, h⟩
    · rw [local_out hk] at h
      cases h
  refine Rel.ofObj hR.below hR.cell (fun k ha => ?_) (fun i j ha hb e => ?_) (fun k => ?_)
  · obtain ⟨_, h⟩ := al k ha
    exact hR.lt _ h
  · obtain ⟨h1, a1⟩ := al i ha
    obtain ⟨h2, a2⟩ := al j hb
    have := hR.inj _ _ a1 a2 e
    rw [List.getD_eq_getElem?_getD, List.getElem?_eq_getElem h1, List.getD_eq_getElem?_getD, List.getElem?_eq_getElem h2] at this
    exact (List.getElem_inj hn).1 (by simpa using this)
  · by_cases hk : k < ids.length
    · have ho := hR.objOk (ids.getD k 0)
      have hm : ids.getD k 0 ∈ ids := by
        rw [List.getD_eq_getElem?_getD, List.getElem?_eq_getElem hk]
        exact List.getElem_mem hk
      have hl := hi _ hm
      unfold ObjOk at ho ⊢
      rw [local_at hk]
      cases hb : C.H (ids.getD k 0) with
      | dead => trivial
      | box ty cells =>
        rw [hb] at ho hl
        unfold locOk at hl
        simp only [Bool.and_eq_true, idbO] at hl
        obtain ⟨vs, h1, h2, h3, h4⟩ := ho
        exact ⟨vs, h1, h2, fun j p hj => ⟨PRel.of0 (C := C) (C' := C.local ids) (fun _ _ _ h => h) (h3 j p hj).1 (idb0 (of_decide_eq_true hl.2) j p hj), (h3 j p hj).2⟩, h4⟩
      | sarr ty sz ver fz ap es => rw [hb] at ho; exact ho
      | map es => rw [hb] at ho; exact ho
    · unfold ObjOk
      rw [local_out hk]
      trivial

/-! ### back at the caller -/
/-- What becomes of an object of the callee's. -/
def NewO (w2 : World) (Cf : Cx) (kv : Prop) (i : Nat) (o' : HObj) : Prop :=
  match Cf.H i with
  | .box ty cells => ∃ cells' vs, o' = .box ty cells' ∧ w2.heap[Cf.σ i]? = some (.cells vs ty (0, 0)) ∧ vs.size = cells'.length ∧ (∀ (j : Nat) p, cells'[j]? = some p → PRel Cf p (vs.getD j undef) ∧ (vs.getD j undef).oneCell' = true) ∧ idbL cells' = 0
  | .sarr ty sz ver fz ap es => ∃ ver', o' = .sarr ty sz ver' fz ap es ∧ (kv → ver' = ver)
  | o => o' = o
theorem NewO.alive {w2 : World} {Cf : Cx} {kv : Prop} {i : Nat} {o' : HObj} (h : NewO w2 Cf kv i o') (ha : o'.alive = true) : (Cf.H i).alive = true := by
  unfold NewO at h
  cases hb : Cf.H i with
  | dead => rw [hb] at h; rw [h] at ha; cases ha
  | _ => rfl
theorem join_loc {C0 Cf : Cx} {w2 : World} {src : Nat → Option Nat} {nw : Nat → HObj} (hR : Rel w0 C w) (hRf : Rel w0 Cf w2) (hX : Ext C0 w Cf w2) (hF0 : C0.F = C.F)
    (hin : ∀ i, (C0.H i).alive = true → ∃ j, src j = some i ∧ C.H j = C0.H i ∧ C.σ j = C0.σ i ∧ C.cap j = C0.cap i)
    (hsrc : ∀ j i, src j = some i → (C.H j = .dead ∧ (C0.H i).alive = false) ∨ ((C0.H i).alive = true ∧ C.H j = C0.H i ∧ C.σ j = C0.σ i ∧ C.cap j = C0.cap i))
    (hinj : ∀ j j' i, src j = some i → src j' = some i → j = j') (hnw : ∀ j i, src j = some i → NewO w2 Cf ((C0.H i).alive = true) i (nw i)) :
    ∃ C' : Cx, (∀ j, C'.H j = match src j with | some i => nw i | none => C.H j) ∧ (∀ j i, src j = some i → C'.σ j = Cf.σ i ∧ C'.cap j = Cf.cap i) ∧ C'.F = Cf.F ∧ Rel w0 C' w2 ∧ Ext C w C' w2 := by
  let C' : Cx := { σ := fun j => match src j with | some i => Cf.σ i | none => C.σ j, cap := fun j => match src j with | some i => Cf.cap i | none => C.cap j, F := Cf.F, H := fun j => match src j with | some i => nw i | none => C.H j }
  have at1 : ∀ j i, src j = some i → C'.H j = nw i ∧ C'.σ j = Cf.σ i ∧ C'.cap j = Cf.cap i := by
    intro j i h
    refine ⟨?_, ?_, ?_⟩ <;> simp only [C', h]
  have at2 : ∀ j, src j = none → C'.H j = C.H j ∧ C'.σ j = C.σ j ∧ C'.cap j = C.cap j := by
    intro j h
    refine ⟨?_, ?_, ?_⟩ <;> simp only [C', h]
  have hFF : ∀ b o v, C.F b o = some v → Cf.F b o = some v := fun b o v h => hX.F b o v (by rw [hF0]; exact h)
  have hk : ∀ j, Keeps C C' j := by
    intro j
    cases hs : src j with
    | none =>
      obtain ⟨e1, e2, e3⟩ := at2 j hs
      unfold Keeps
      cases hb : C.H j with
      | dead => trivial
      | box ty cells => exact ⟨cells, e1.trans hb, e2⟩
      | sarr ty sz ver fz ap es => exact ⟨ver, fz, es, e1.trans hb, Nat.le_refl _, fun _ => ⟨e2, e3, rfl⟩⟩
      | map es => exact ⟨es, e1.trans hb, e2⟩
    | some i =>
      obtain ⟨e1, e2, e3⟩ := at1 j i hs
      rcases hsrc j i hs with ⟨hd, _⟩ | ⟨ha, q1, q2, q3⟩
      · unfold Keeps
        rw [hd]
        trivial
      · have kp := hX.keep i
        have nn := hnw j i hs
        unfold Keeps at kp ⊢
        unfold NewO at nn
        rw [q1, e1, e2, e3, q2, q3]
        cases hb : C0.H i with
        | dead => trivial
        | box ty cells =>
          rw [hb] at kp
          obtain ⟨c, k1, k2⟩ := kp
          rw [k1] at nn
          obtain ⟨c', vs, n1, _⟩ := nn
          exact ⟨c', n1, k2⟩
        | sarr ty sz ver fz ap es =>
          rw [hb] at kp
          obtain ⟨v', f', es', k1, k2, k3⟩ := kp
          rw [k1] at nn
          obtain ⟨ver', n1, n2⟩ := nn
          have := n2 ha
          subst this
          exact ⟨ver', f', es', n1, k2, k3⟩
        | map es =>
          rw [hb] at kp
          obtain ⟨c, k1, k2⟩ := kp
          rw [k1] at nn
          exact ⟨c, nn, k2⟩
  have hal : ∀ j i, src j = some i → (C'.H j).alive = true → (Cf.H i).alive = true := fun j i hs ha => (hnw j i hs).alive (by rw [(at1 j i hs).1] at ha; exact ha)
  have h0 : ∀ {p v}, PRel Cf p v → idb p = 0 → PRel C' p v := fun h e => PRel.of0 (C := Cf) (C' := C') (fun _ _ _ h => h) h e
  have hapart : ∀ j i j', src j = some i → src j' = none → (C'.H j).alive = true → (C.H j').alive = true → Cf.σ i ≠ C.σ j' := by
    intro j i j' hs hn ha hb e
    rcases hX.fresh i (hal j i hs ha) with ⟨id0, h1, e0⟩ | h1
    · obtain ⟨j0, g1, g2, g3, g4⟩ := hin id0 h1
      have : C.σ j0 = C.σ j' := by rw [g3, ← e0, e]
      have := hR.inj j0 j' (by rw [g2]; exact h1) hb this
      subst this
      rw [hn] at g1
      cases g1
    · have := (hR.lt j' hb).2
      omega
  refine ⟨C', fun j => rfl, fun j i hs => (at1 j i hs).2, rfl, Rel.ofObj hRf.below hRf.cell (fun j ha => ?_) (fun i j hi hj e => ?_) (fun j => ?_), ⟨hFF, hk, fun b hb hn => hX.frame b hb (fun id ha e => ?_), fun j ha => ?_, hX.size, fun b o v hv => ?_⟩⟩
  · cases hs : src j with
    | some i =>
      rw [(at1 j i hs).2.1]
      exact hRf.lt i (hal j i hs ha)
    | none =>
      obtain ⟨e1, e2, _⟩ := at2 j hs
      rw [e1] at ha
      rw [e2]
      have := hR.lt j ha
      exact ⟨this.1, Nat.lt_of_lt_of_le this.2 hX.size⟩
  · cases h1 : src i with
    | some a =>
      cases h2 : src j with
      | some b =>
        rw [(at1 i a h1).2.1, (at1 j b h2).2.1] at e
        have := hRf.inj a b (hal i a h1 hi) (hal j b h2 hj) e
        subst this
        exact hinj i j a h1 h2
      | none =>
        obtain ⟨e1, e2, _⟩ := at2 j h2
        rw [e1] at hj
        rw [(at1 i a h1).2.1, e2] at e
        exact absurd e (hapart i a j h1 h2 hi hj)
    | none =>
      obtain ⟨e1, e2, _⟩ := at2 i h1
      rw [e1] at hi
      cases h2 : src j with
      | some b =>
        rw [(at1 j b h2).2.1, e2] at e
        exact absurd e.symm (hapart j b i h2 h1 hj hi)
      | none =>
        obtain ⟨e3, e4, _⟩ := at2 j h2
        rw [e3] at hj
        rw [e2, e4] at e
        exact hR.inj i j hi hj e
  · cases hs : src j with
    | some i =>
      obtain ⟨e1, e2, e3⟩ := at1 j i hs
      have nn := hnw j i hs
      have hok := hRf.objOk i
      unfold NewO at nn
      unfold ObjOk at hok ⊢
      rw [e1, e2, e3]
      cases hb : Cf.H i with
      | dead => rw [hb] at nn; rw [nn]; trivial
      | box ty cells =>
        rw [hb] at nn hok
        obtain ⟨c, vs, g1, g2, g3, g4, g5⟩ := nn
        obtain ⟨_, _, _, _, g6⟩ := hok
        rw [g1]
        exact ⟨vs, g2, g3, fun k p hp => ⟨h0 (g4 k p hp).1 (idb0 g5 k p hp), (g4 k p hp).2⟩, g6⟩
      | sarr ty sz ver fz ap es => rw [hb] at nn hok; obtain ⟨v', n1, _⟩ := nn; rw [n1]; exact hok
      | map es => rw [hb] at nn hok; rw [nn]; exact hok
    | none =>
      obtain ⟨e1, e2, e3⟩ := at2 j hs
      by_cases ha : (C.H j).alive = true
      · have hlj := hR.lt j ha
        have hne : ∀ id, (C0.H id).alive = true → C0.σ id ≠ C.σ j := by
          intro id hid e
          obtain ⟨j0, g1, g2, g3, g4⟩ := hin id hid
          have := hR.inj j0 j (by rw [g2]; exact hid) ha (by rw [g3, e])
          subst this
          rw [hs] at g1
          cases g1
        refine (hR.objOk j).move e1 e2 e3 (hX.frame _ hlj.2 hne) hFF (fun o => ?_) hk
        cases hq : C.F (C.σ j) o with
        | some v => exact hFF _ _ _ hq
        | none =>
          show Cf.F (C.σ j) o = none
          cases hv : Cf.F (C.σ j) o with
          | none => rfl
          | some v =>
            rcases hX.Fnew _ _ _ hv with h1 | h1 | ⟨id, h1, h2⟩
            · rw [hF0, hq] at h1
              cases h1
            · omega
            · exact absurd h2 (hne id h1)
      · have hd : C.H j = .dead := by
          cases hb : C.H j <;> rw [hb] at ha <;> first | rfl | exact absurd rfl ha
        unfold ObjOk
        rw [e1, hd]
        trivial
  · obtain ⟨j0, g1, g2, g3, g4⟩ := hin id ha
    exact hn j0 (by rw [g2]; exact ha) (by rw [g3]; exact e)
  · cases hs : src j with
    | some i =>
      rw [(at1 j i hs).2.1]
      rcases hX.fresh i (hal j i hs ha) with ⟨id0, h1, e0⟩ | h1
      · obtain ⟨j0, g1, g2, g3, g4⟩ := hin id0 h1
        exact .inl ⟨j0, by rw [g2]; exact h1, by rw [g3, ← e0]⟩
      · exact .inr h1
    | none =>
      obtain ⟨e1, e2, _⟩ := at2 j hs
      rw [e1] at ha
      exact .inl ⟨j, ha, e2⟩
  · rcases hX.Fnew b o v hv with h1 | h1 | ⟨id, h1, h2⟩
    · rw [hF0] at h1
      exact .inl h1
    · exact .inr (.inl h1)
    · obtain ⟨j0, g1, g2, g3, g4⟩ := hin id h1
      exact .inr (.inr ⟨j0, by rw [g2]; exact h1, by rw [g3]; exact h2⟩)
theorem setL_app : ∀ {ids : List Nat} {l x : List HObj} {H : Ob}, l.length = ids.length → setL H ids (l ++ x) = setL H ids l
  | [], l, x, H, h => by
    cases l with
    | nil => cases x <;> rfl
    | cons => simp at h
  | a :: r, [], x, H, h => by simp at h
  | a :: r, o :: l, x, H, h => by
    simp only [List.cons_append, setL]
    exact setL_app (by simpa using h)
theorem callD_cases {E : Env} {run : Run} {f : FuncId} {a : List PV} {hs : List HObj} {r : Out × List HObj} (hlf : E.loc f = true) (h : callE E run f a hs = some r) :
    (∃ o1 H1 n1, run f a (Ob.of hs) hs.length = some (o1, H1, n1) ∧ ownOut hs.length H1 o1 = some r.1 ∧ ownObjs hs.length H1 (firstO H1 hs.length) = some r.2) ∨
    (∃ id ver n H1 n1 ty sz fz ap es, run f a (Ob.of hs) hs.length = some (.ret (.hsl id ver 0 n), H1, n1) ∧ hs.length ≤ id ∧ H1 id = .sarr ty sz ver fz ap es ∧ n = es.length ∧ (firstO H1 hs.length).all (fun o => decide (idbO o = 0)) = true ∧
      r = (.ret (.hsl hs.length 0 0 n), firstO H1 hs.length ++ [.sarr ty sz 0 fz ap es])) := by
  unfold callE at h
  obtain ⟨⟨o1, H1, n1⟩, h1, h2⟩ := bnd_eq_some.1 h
  have plain : finC hs.length (o1, H1, n1) = some r → ∃ o1 H1 n1, run f a (Ob.of hs) hs.length = some (o1, H1, n1) ∧ ownOut hs.length H1 o1 = some r.1 ∧ ownObjs hs.length H1 (firstO H1 hs.length) = some r.2 := by
    intro h
    obtain ⟨o, g1, g2⟩ := bnd_eq_some.1 h
    obtain ⟨l, g3, g4⟩ := bnd_eq_some.1 g2
    injection g4 with g4
    subst g4
    exact ⟨o1, H1, n1, h1, g1, g3⟩
  unfold finE at h2
  rw [if_pos hlf] at h2
  unfold finD at h2
  simp only at h2
  split at h2
  · rename_i id ver off n
    split at h2
    · rename_i hle
      split at h2
      · rename_i ty sz v fz ap es hH
        split at h2
        · rename_i hc
          obtain ⟨c1, c2, c3, c4⟩ := hc
          subst c1; subst c2
          injection h2 with h2
          exact .inr ⟨id, v, n, H1, n1, ty, sz, fz, ap, es, h1, hle, hH, c3, c4, h2.symm⟩
        · cases h2
      · cases h2
    · exact .inl (plain h2)
  · exact .inl (plain h2)
theorem twin_new {Cf C' : Cx} {w2 : World} {kv : Prop} {i j : Nat} {o' : HObj} (hn : NewO w2 Cf kv i o') (hk : kv ∨ ∀ ty sz ver fz ap es, Cf.H i ≠ .sarr ty sz ver fz ap es) (h1 : C'.H j = o') (h2 : C'.σ j = Cf.σ i) (h3 : C'.cap j = Cf.cap i) : Twin Cf i C' j := by
  unfold Twin
  unfold NewO at hn
  cases hb : Cf.H i with
  | dead => trivial
  | box ty cells =>
    rw [hb] at hn
    obtain ⟨c, vs, n1, _⟩ := hn
    exact ⟨c, h1.trans n1, h2⟩
  | sarr ty sz ver fz ap es =>
    rw [hb] at hn
    obtain ⟨v', n1, n2⟩ := hn
    rcases hk with hk | hk
    · have := n2 hk
      subst this
      exact ⟨fz, es, h1.trans n1, h2, h3, rfl⟩
    · exact absurd hb (hk _ _ _ _ _ _)
  | map es =>
    rw [hb] at hn
    exact ⟨es, h1.trans hn, h2⟩
theorem twin_local {ids : List Nat} {id k : Nat} (h : idxOf ids id 0 = some k) : Twin C id (C.local ids) k := by
  obtain ⟨j, e, hj⟩ := idx_some h
  rw [Nat.zero_add] at e
  subst e
  have hlt : k < ids.length := (List.getElem?_eq_some_iff.1 hj).1
  have hg : ids.getD k 0 = id := by rw [List.getD_eq_getElem?_getD, hj]; rfl
  have e1 : (C.local ids).H k = C.H id := by rw [local_at hlt, hg]
  have e2 : (C.local ids).σ k = C.σ id := by show C.σ (ids.getD k 0) = _; rw [hg]
  have e3 : (C.local ids).cap k = C.cap id := by show C.cap (ids.getD k 0) = _; rw [hg]
  unfold Twin
  cases hb : C.H id with
  | dead => trivial
  | box ty cells => exact ⟨cells, e1.trans hb, e2⟩
  | sarr ty sz ver fz ap es => exact ⟨fz, es, e1.trans hb, e2, e3, rfl⟩
  | map es => exact ⟨es, e1.trans hb, e2⟩
theorem args_local {ids : List Nat} {args a : List PV} {vals : Array Value} (ha : ArgRel C args vals) (h : renL (fun i => idxOf ids i 0) args = some a) : ArgRel (C.local ids) a vals := by
  obtain ⟨h1, h2⟩ := renL_get h
  refine ⟨h1.trans ha.1, fun i p hi => ?_⟩
  obtain ⟨p0, k1, k2⟩ := h2 i p hi
  exact ren_rel (C := C) (C' := C.local ids) (fun _ _ _ h => h) (fun id k h => twin_local h) (ha.2 i p0 k1) k2
theorem renOut_rel {C' : Cx} {g : Nat → Option Nat} (hF : ∀ b o v, C.F b o = some v → C'.F b o = some v) (ht : ∀ id k, g id = some k → Twin C id C' k) {o o' : Out} {e : Ending} (h : OutRel C o e) (hr : renOut g o = some o') : OutRel C' o' e := by
  cases o with
  | ret v =>
    simp only [renOut] at hr
    obtain ⟨v', h1, h2⟩ := bnd_eq_some.1 hr
    injection h2 with h2
    subst h2
    cases e <;> try exact h.elim
    exact ren_rel hF ht h h1
  | panic v =>
    simp only [renOut] at hr
    obtain ⟨v', h1, h2⟩ := bnd_eq_some.1 hr
    injection h2 with h2
    subst h2
    cases e <;> try exact h.elim
    obtain ⟨u, hu, hv⟩ := h
    exact ⟨u, hu, ren_rel hF ht hv h1⟩
def LPost (w0 : World) (C : Cx) (w : World) (o : Out) (H' : Ob) (e : Ending) (w' : World) : Prop := ∃ C', C'.H = H' ∧ Rel w0 C' w' ∧ Ext C w C' w' ∧ OutRel C' o e
theorem doLoc_ok {E : Env} {run : Run} {f : FuncId} {args : List PV} {H : Ob} {nid : Nat} {o : Out} {H' : Ob} {vals : Array Value} {F0 : Fix} (hrun : RunOk E.P w0 F0 run) (hlf : E.loc f = true)
    (h : doLoc (callE E run) f args H nid = some (o, H')) (hC : C.H = H) (hd : H nid = .dead) (hR : Rel w0 C w) (hB : Base F0 C) (ha : ArgRel C args vals) : FnOk E.P f ∧ Calls E.P f vals w (LPost w0 C w o H') := by
  subst hC
  unfold doLoc at h
  simp only at h
  have hn := ids_nodup args
  generalize idsOf args = ids at h hn
  split at h
  rotate_left
  · cases h
  rename_i hall
  have hok : ∀ id ∈ ids, locOk (C.H id) = true := List.all_eq_true.1 hall
  obtain ⟨a, h1, h⟩ := bnd_eq_some.1 h
  obtain ⟨r, h2, h⟩ := bnd_eq_some.1 h
  split at h
  rotate_left
  · cases h
  rename_i hz
  have hz : ∀ ob ∈ r.2, idbO ob = 0 := fun ob hob => of_decide_eq_true (List.all_eq_true.1 hz ob hob)
  have hR0 := hR.local hn hok
  have harg := args_local ha h1
  have hH0 : (C.local ids).H = Ob.of (ids.map C.H) := rfl
  have hT0 : Tail (Ob.of (ids.map C.H)) (ids.map C.H).length := fun j hj => by
    unfold Ob.of
    rw [List.getD_eq_getElem?_getD, List.getElem?_eq_none (by simpa using hj)]
    rfl
  have al : ∀ k, ((C.local ids).H k).alive = true → k < ids.length := by
    intro k h
    by_cases hk : k < ids.length
    · exact hk
    · rw [local_out hk] at h
      cases h
  have atk : ∀ k, k < ids.length → idxOf ids (ids.getD k 0) 0 = some k ∧ ids[k]? = some (ids.getD k 0) := by
    intro k hk
    have e : ids[k]? = some (ids.getD k 0) := by rw [List.getD_eq_getElem?_getD, List.getElem?_eq_getElem hk]; rfl
    have := idx_of (i := 0) hn e
    rw [Nat.zero_add] at this
    exact ⟨this, e⟩
  have idx : ∀ j i, idxOf ids j 0 = some i → i < ids.length ∧ ids.getD i 0 = j ∧ ids[i]? = some j ∧ j ∈ ids := by
    intro j i h
    obtain ⟨k, e, hk⟩ := idx_some h
    rw [Nat.zero_add] at e
    subst e
    exact ⟨(List.getElem?_eq_some_iff.1 hk).1, by rw [List.getD_eq_getElem?_getD, hk]; rfl, hk, List.mem_of_getElem? hk⟩
  have ali : ∀ j i, idxOf ids j 0 = some i → ((C.local ids).H i).alive = true ∧ C.H j = (C.local ids).H i ∧ C.σ j = (C.local ids).σ i ∧ C.cap j = (C.local ids).cap i := by
    intro j i h
    obtain ⟨h1, h2, _, h4⟩ := idx j i h
    have := hok j h4
    unfold locOk at this
    rw [Bool.and_eq_true] at this
    refine ⟨by rw [local_at h1, h2]; exact this.1, by rw [local_at h1, h2], ?_, ?_⟩
    · show _ = C.σ (ids.getD i 0)
      rw [h2]
    · show _ = C.cap (ids.getD i 0)
      rw [h2]
  rcases callD_cases hlf h2 with ⟨o1, H1, n1, g1, g3, g5⟩ | ⟨id, ver, n, H1, n1, ty, sz, fz, ap, es, g1, gle, gH, gn, gall, gr⟩
  · obtain ⟨kf, kc⟩ := hrun _ _ _ _ _ _ _ g1
    refine ⟨kf, (kc (C.local ids) w vals hH0 hT0 hR0 hB harg).mono (fun e w2 hpost => ?_)⟩
    obtain ⟨C2, hH2, _, _, hR2, hX2, hO2⟩ := hpost
    rw [List.length_map] at g3 g5
    have hA2 : Alike ids.length H1 C2.H := by rw [hH2]; exact Alike.refl _ _
    obtain ⟨C3, hA3, hf3, hO3, hi3⟩ := own_out hR2 hA2 g3 hO2
    obtain ⟨l4, C4, hA4, hf4, hO4⟩ := own_objs (k := 0) hf3.rel hA3 g5 (fun i o hi => by
      have hlt : i < ids.length := by
        have := (List.getElem?_eq_some_iff.1 hi).1
        rw [firstO_length] at this
        exact this
      rw [firstO_get _ _ _ hlt] at hi
      injection hi with hi
      rw [Nat.zero_add]
      exact ⟨hi.symm, hlt⟩)
    rw [firstO_length] at l4
    have hnwi : ∀ i, i < ids.length → NewO w2 C4 (((C.local ids).H i).alive = true) i (r.2.getD i .dead) := by
      intro i hi
      have e : r.2[i]? = some (r.2.getD i .dead) := by rw [List.getD_eq_getElem?_getD, List.getElem?_eq_getElem (by omega)]; rfl
      have ho := hO4 i _ e
      rw [Nat.zero_add, ← hA4.1 i hi] at ho
      have h0 := hz _ (List.mem_of_getElem? e)
      unfold Owned at ho
      unfold NewO
      cases hb : C4.H i with
      | dead => rw [hb] at ho; exact ho
      | box ty cells =>
        rw [hb] at ho
        obtain ⟨c, vs, q1, q2, q3, q4, q5⟩ := ho
        refine ⟨c, vs, q1, q2, q3, q4, ?_⟩
        rw [q1] at h0
        exact h0
      | sarr ty sz ver fz ap es => rw [hb] at ho; exact ⟨ver, ho, fun _ => rfl⟩
      | map es => rw [hb] at ho; exact ho
    obtain ⟨C', q1, q2, q3, q4, q5⟩ := join_loc (C0 := C.local ids) (src := fun j => idxOf ids j 0) (nw := fun i => r.2.getD i .dead) hR hf4.rel ((hX2.trans hf3.ext).trans hf4.ext) rfl
      (fun i hi => by
        obtain ⟨s1, _⟩ := atk i (al i hi)
        obtain ⟨_, s2, s3, s4⟩ := ali _ _ s1
        exact ⟨_, s1, s2, s3, s4⟩) (fun j i hs => .inr (ali j i hs)) (fun j j' i hs hs' => by rw [← (idx j i hs).2.1, ← (idx j' i hs').2.1]) (fun j i hs => hnwi i (idx j i hs).1)
    rw [if_pos (by omega)] at h
    obtain ⟨o2, k1, k2⟩ := bnd_eq_some.1 h
    injection k2 with k2
    injection k2 with e1 e2
    subst e1
    refine ⟨C', ?_, q4, q5, ?_⟩
    · rw [← e2]
      funext j
      rw [q1 j, setL_at hn (by omega)]
    · refine renOut_rel (C := C4) (fun b o v hv => by rw [q3]; exact hv) (fun i j hs => ?_) (hO3.mono fun p v hp => hf4.ext.rel hp) k1
      have hlt : i < ids.length := (List.getElem?_eq_some_iff.1 hs).1
      have hsx : idxOf ids j 0 = some i := by
        have := idx_of (i := 0) hn hs
        rw [Nat.zero_add] at this
        exact this
      obtain ⟨z1, z2⟩ := q2 j i hsx
      have hj := q1 j
      simp only [hsx] at hj
      exact twin_new (hnwi i hlt) (.inl (ali j i hsx).1) hj z1 z2
  · obtain ⟨kf, kc⟩ := hrun _ _ _ _ _ _ _ g1
    refine ⟨kf, (kc (C.local ids) w vals hH0 hT0 hR0 hB harg).mono (fun e w2 hpost => ?_)⟩
    obtain ⟨C2, hH2, _, _, hR2, hX2, hO2⟩ := hpost
    rw [List.length_map] at gle gall gr
    subst gr
    simp only at h
    have hlf : (firstO H1 ids.length).length = ids.length := firstO_length _ _
    rw [if_neg (by rw [List.length_append, hlf]; simp)] at h
    have hlast : (firstO H1 ids.length ++ [HObj.sarr ty sz 0 fz ap es])[ids.length]? = some (.sarr ty sz 0 fz ap es) := by
      rw [List.getElem?_append_right (by omega), hlf, Nat.sub_self]
      rfl
    rw [hlast] at h
    simp only at h
    rw [if_pos ⟨trivial, gn, by rw [List.length_append, hlf]; rfl⟩] at h
    injection h with h
    injection h with e1 e2
    subst e1
    have hnid : nid ∉ ids := fun hm => by
      have := hok nid hm
      rw [hd] at this
      cases this
    have hsn : idxOf ids nid 0 = none := by
      cases hx : idxOf ids nid 0 with
      | none => rfl
      | some i => exact absurd (idx nid i hx).2.2.2 hnid
    have hidn : ¬ id < ids.length := by omega
    have hnwi : ∀ i, i < ids.length → NewO w2 C2 (((C.local ids).H i).alive = true) i (H1 i) := by
      intro i hi
      have h0 : idbO (H1 i) = 0 := of_decide_eq_true (List.all_eq_true.1 gall _ (List.mem_of_getElem? (firstO_get H1 _ i hi)))
      unfold NewO
      have ho := hR2.objOk i
      unfold ObjOk at ho
      rw [← hH2] at h0 ⊢
      cases hb : C2.H i with
      | dead => rfl
      | box ty cells =>
        rw [hb] at ho h0
        obtain ⟨vs, q1, q2, q3, q4⟩ := ho
        exact ⟨cells, vs, rfl, q1, q2, q3, h0⟩
      | sarr ty sz ver fz ap es => exact ⟨ver, rfl, fun _ => rfl⟩
      | map es => rfl
    obtain ⟨C', q1, q2, q3, q4, q5⟩ := join_loc (C0 := C.local ids) (src := fun j => match idxOf ids j 0 with | some i => some i | none => if j = nid then some id else none) (nw := fun i => if i = id then .sarr ty sz 0 fz ap es else H1 i) hR hR2 hX2 rfl
      (fun i hi => by
        obtain ⟨s1, _⟩ := atk i (al i hi)
        obtain ⟨_, s2, s3, s4⟩ := ali _ _ s1
        exact ⟨_, by simp only [s1], s2, s3, s4⟩)
      (fun j i hs => by
        cases hx : idxOf ids j 0 with
        | some i' =>
          simp only [hx] at hs
          injection hs with hs
          subst hs
          exact .inr (ali j i' hx)
        | none =>
          simp only [hx] at hs
          split at hs
          · rename_i ej
            injection hs with hs
            subst hs; subst ej
            exact .inl ⟨hd, by rw [local_out hidn]; rfl⟩
          · cases hs)
      (fun j j' i hs hs' => by
        cases hx : idxOf ids j 0 with
        | some a1 =>
          simp only [hx] at hs
          injection hs with hs
          subst hs
          cases hx' : idxOf ids j' 0 with
          | some a2 =>
            simp only [hx'] at hs'
            injection hs' with hs'
            subst hs'
            rw [← (idx j _ hx).2.1, ← (idx j' _ hx').2.1]
          | none =>
            simp only [hx'] at hs'
            split at hs'
            · injection hs' with hs'
              subst hs'
              exact absurd (idx j _ hx).1 hidn
            · cases hs'
        | none =>
          simp only [hx] at hs
          split at hs
          · rename_i ej
            injection hs with hs
            subst hs
            cases hx' : idxOf ids j' 0 with
            | some a2 =>
              simp only [hx'] at hs'
              injection hs' with hs'
              subst hs'
              exact absurd (idx j' _ hx').1 hidn
            | none =>
              simp only [hx'] at hs'
              split at hs'
              · rename_i ej'
                rw [ej, ej']
              · cases hs'
          · cases hs)
      (fun j i hs => by
        cases hx : idxOf ids j 0 with
        | some i' =>
          simp only [hx] at hs
          injection hs with hs
          subst hs
          have hlt := (idx j _ hx).1
          rw [if_neg (by omega)]
          exact hnwi _ hlt
        | none =>
          simp only [hx] at hs
          split at hs
          · injection hs with hs
            subst hs
            rw [if_pos rfl]
            unfold NewO
            rw [hH2, gH]
            exact ⟨0, rfl, fun ha => by rw [local_out hidn] at ha; cases ha⟩
          · cases hs)
    have hsrcn : (match idxOf ids nid 0 with | some i => some i | none => if nid = nid then some id else none) = some id := by rw [hsn]; simp
    refine ⟨C', ?_, q4, q5, ?_⟩
    · rw [← e2]
      funext j
      rw [q1 j, setL_app hlf]
      by_cases ej : j = nid
      · subst ej
        rw [show (Ob.set (setL C.H ids (firstO H1 ids.length)) j (.sarr ty sz 0 fz ap es)) j = .sarr ty sz 0 fz ap es from if_pos rfl]
        simp only [hsn, if_true]
      · rw [show (Ob.set (setL C.H ids (firstO H1 ids.length)) nid (.sarr ty sz 0 fz ap es)) j = setL C.H ids (firstO H1 ids.length) j from if_neg ej, setL_at hn hlf]
        cases hx : idxOf ids j 0 with
        | some i =>
          have hlt := (idx j i hx).1
          simp only
          rw [if_neg (by omega), List.getD_eq_getElem?_getD, firstO_get _ _ _ hlt]
          rfl
        | none => simp only [if_neg ej]
    · cases e <;> try exact hO2.elim
      have hO2 : PRel C2 (.hsl id ver 0 n) _ := hO2
      show PRel C' (.hsl nid 0 0 n) _
      cases hO2 with
      | hsl id ver off n ty' sz' cur fz' ap' es' v hc hle h1' he =>
        rw [hH2, gH] at hc
        injection hc with c1 c2 c3 c4 c5 c6
        subst c1; subst c2; subst c3; subst c4; subst c5; subst c6
        have hj := q1 nid
        rw [hsrcn] at hj
        simp only [if_true] at hj
        obtain ⟨z1, z2⟩ := q2 nid id hsrcn
        refine .hsl nid 0 0 n ty sz 0 fz ap es _ hj (Nat.le_refl _) h1' (fun _ => ?_)
        rw [z1, z2]
        exact he rfl
/-- What a local call turns, and what it looks at. -/
theorem doLoc_fr {callc : CallC} {f : FuncId} {args : List PV} {H H' : Ob} {nid : Nat} {o : Out} (h : doLoc callc f args H nid = some (o, H')) :
    (∀ j ∈ idsOf args, (H j).alive = true) ∧ (∀ j, j ∉ idsOf args → j ≠ nid → H' j = H j) ∧ ∀ H2, (∀ j ∈ idsOf args, H2 j = H j) → H2 nid = H nid → ∃ H2', doLoc callc f args H2 nid = some (o, H2') ∧ ∀ j, (j ∈ idsOf args ∨ j = nid → H2' j = H' j) ∧ (j ∉ idsOf args → j ≠ nid → H2' j = H2 j) := by
  unfold doLoc at h ⊢
  simp only at h ⊢
  have hn := ids_nodup args
  generalize idsOf args = ids at h hn ⊢
  split at h
  rotate_left
  · cases h
  rename_i hall
  obtain ⟨a, h1, h⟩ := bnd_eq_some.1 h
  obtain ⟨r, h2, h⟩ := bnd_eq_some.1 h
  split at h
  rotate_left
  · cases h
  rename_i hz
  have hall' : ∀ H2 : Ob, (∀ j ∈ ids, H2 j = H j) → ids.all (fun i => locOk (H2 i)) = true ∧ ids.map H2 = ids.map H := fun H2 hh => by
    refine ⟨List.all_eq_true.2 fun i hi => ?_, List.map_congr_left fun i hi => hh i hi⟩
    rw [hh i hi]
    exact List.all_eq_true.1 hall i hi
  refine ⟨fun j hj => ?_, ?_⟩
  · have := List.all_eq_true.1 hall j hj
    unfold locOk at this
    rw [Bool.and_eq_true] at this
    exact this.1
  have mem : ∀ j, j ∉ ids → idxOf ids j 0 = none := fun j hj => by
    cases hx : idxOf ids j 0 with
    | none => rfl
    | some i =>
      obtain ⟨k, _, hk⟩ := idx_some hx
      exact absurd (List.mem_of_getElem? hk) hj
  have mem2 : ∀ j, j ∈ ids → ∃ i, idxOf ids j 0 = some i := fun j hj => by
    cases hx : idxOf ids j 0 with
    | some i => exact ⟨i, rfl⟩
    | none => exact absurd hj (idx_none hx)
  split at h
  · rename_i hl
    obtain ⟨o2, k1, k2⟩ := bnd_eq_some.1 h
    injection k2 with k2
    injection k2 with e1 e2
    subst e1; subst e2
    refine ⟨fun j hj _ => by rw [setL_at hn hl, mem j hj], fun H2 hh h0 => ⟨setL H2 ids r.2, ?_, fun j => ⟨fun hj => ?_, fun hj _ => by rw [setL_at hn hl, mem j hj]⟩⟩⟩
    · obtain ⟨q1, q2⟩ := hall' H2 hh
      rw [if_pos q1, h1, q2]
      simp only [bnd_some, h2]
      rw [if_pos hz, if_pos hl, k1]
      rfl
    · rw [setL_at hn hl, setL_at hn hl]
      by_cases hm : j ∈ ids
      · obtain ⟨i, hx⟩ := mem2 j hm
        rw [hx]
      · rw [mem j hm]
        rcases hj with hj | hj
        · exact absurd hj hm
        · rw [hj]; exact h0
  · rename_i hl
    split at h
    · rename_i k n ty sz fz ap es hr1 hr2
      split at h
      · rename_i hc
        obtain ⟨c1, c2, c3⟩ := hc
        injection h with h
        injection h with e1 e2
        subst e1; subst e2
        obtain ⟨l, x, hlx, hll⟩ : ∃ l x, r.2 = l ++ [x] ∧ l.length = ids.length := by
          have hne : r.2 ≠ [] := fun e => by rw [e] at c3; simp at c3
          exact ⟨r.2.dropLast, r.2.getLast hne, (List.dropLast_concat_getLast hne).symm, by rw [List.length_dropLast]; omega⟩
        have sL : ∀ (H2 : Ob) j, setL H2 ids r.2 j = match idxOf ids j 0 with | some i => l.getD i .dead | none => H2 j := fun H2 j => by
          rw [hlx, setL_app hll, setL_at hn hll]
        have st : ∀ (X : Ob) (ob : HObj) j, j ≠ nid → (X.set nid ob) j = X j := fun X ob j hj => if_neg hj
        have st2 : ∀ (X : Ob) (ob : HObj), (X.set nid ob) nid = ob := fun X ob => if_pos rfl
        refine ⟨fun j hj hjn => by rw [st _ _ j hjn, sL, mem j hj], fun H2 hh h0 => ⟨(setL H2 ids r.2).set nid (.sarr ty sz 0 fz ap es), ?_, fun j => ⟨fun hj => ?_, fun hj hjn => by rw [st _ _ j hjn, sL, mem j hj]⟩⟩⟩
        · obtain ⟨q1, q2⟩ := hall' H2 hh
          rw [if_pos q1, h1, q2]
          simp only [bnd_some, h2]
          rw [if_pos hz, if_neg hl]
          simp only [hr1, hr2]
          rw [if_pos ⟨c1, c2, c3⟩]
        · by_cases hjn : j = nid
          · rw [hjn, st2, st2]
          · rw [st _ _ j hjn, st _ _ j hjn, sL, sL]
            obtain ⟨i, hx⟩ := mem2 j (hj.resolve_right hjn)
            rw [hx]
      · cases h
    · cases h
theorem doCall_ok {E : Env} {run : Run} {draw : Bool} {f : FuncId} {args : List PV} {H : Ob} {next : Nat} {o : Out} {H' : Ob} {next' : Nat} {vals : Array Value} {F0 : Fix} (hrun : RunOk E.P w0 F0 run)
    (h : doCall E (callE E run) run draw f args H next = some (o, H', next')) (hC : C.H = H) (hT : Tail H next) (hd : E.loc f = true → 1 ≤ next ∧ H (next - 1) = .dead) (hR : Rel w0 C w) (hB : Base F0 C) (ha : ArgRel C args vals) : FnOk E.P f ∧ Calls E.P f vals w (Post w0 C w o H' next next') := by
  unfold doCall at h
  split at h
  · split at h
    · cases h
    · obtain ⟨k1, k2⟩ := hrun _ _ _ _ _ _ _ h
      exact ⟨k1, k2 C w vals hC hT hR hB ha⟩
  · split at h
    · rename_i hlf
      obtain ⟨⟨o1, H1⟩, h1, h2⟩ := bnd_eq_some.1 h
      injection h2 with h2
      injection h2 with e1 h2
      injection h2 with e2 e3
      subst e1; subst e2; subst e3
      obtain ⟨d1, d2⟩ := hd hlf
      obtain ⟨k1, k2⟩ := doLoc_ok hrun hlf h1 hC d2 hR hB ha
      obtain ⟨al, fr, _⟩ := doLoc_fr h1
      refine ⟨k1, k2.mono fun e w2 ⟨C', q1, q2, q3, q4⟩ => ⟨C', q1, fun j hj => ?_, Nat.le_refl _, q2, q3, q4⟩⟩
      have hj0 := hT j hj
      exact (fr j (fun hm => by have := al j hm; rw [hj0] at this; cases this) (by omega)).trans hj0
    rename_i hlf
    obtain ⟨a, h1, h2⟩ := bnd_eq_some.1 h
    simp only at h2
    split at h2
    · cases h2
    · split at h2
      · rename_i hcond
        obtain ⟨hm, hall⟩ := hcond
        obtain ⟨r, h3, h4⟩ := bnd_eq_some.1 h2
        injection h4 with h4
        injection h4 with e1 h4
        injection h4 with e2 e3
        subst e1; subst e3
        subst hC
        obtain ⟨hl0, C1, hC1, hf1, hr1⟩ := lendL_run (us := vals.toList) hR h1 (by simpa using ha.1) (fun i p hi => by
          have := ha.2 i p hi
          simpa [Array.getD_eq_getD_getElem?, List.getD_eq_getElem?_getD] using this)
        have hcl : ∀ j, j < idbL a.1 → idbO (C1.H j) ≤ idbL a.1 := by
          intro j hj
          have h5 := firstO_get a.2 _ j hj
          have := List.all_eq_true.1 hall _ (List.mem_of_getElem? h5)
          rw [hC1]
          simpa using this
        have hR0 := Rel.cut (m := idbL a.1) hf1.rel hcl
        unfold callE finE at h3
        rw [firstO_length] at h3
        obtain ⟨r1, g1, g2⟩ := bnd_eq_some.1 h3
        rw [if_neg hlf] at g2
        unfold finC at g2
        obtain ⟨o1, g3, g4⟩ := bnd_eq_some.1 g2
        obtain ⟨l, g5, g6⟩ := bnd_eq_some.1 g4
        injection g6 with g6
        subst g6
        obtain ⟨r1o, r1H, r1n⟩ := r1
        have hH0 : (C1.cut (idbL a.1)).H = Ob.of (firstO a.2 (idbL a.1)) := by rw [ofFirst, ← hC1]; rfl
        have hT0 : Tail (Ob.of (firstO a.2 (idbL a.1))) (idbL a.1) := fun j hj => by rw [ofFirst]; exact if_neg (by omega)
        have harg : ArgRel (C1.cut (idbL a.1)) a.1 vals := ⟨by simpa using hl0, fun i p hi => by
          have := (hr1 i p hi).cut (m := idbL a.1) (idbL_le (Nat.le_refl _) i p hi)
          simpa [Array.getD_eq_getD_getElem?, List.getD_eq_getElem?_getD] using this⟩
        obtain ⟨kf, kc⟩ := hrun _ _ _ _ _ _ _ g1
        refine ⟨kf, (kc _ w vals hH0 hT0 hR0 (fun b o v hv => hf1.ext.F b o v (hB b o v hv)) harg).mono (fun e w2 hpost => ?_)⟩
        obtain ⟨C2, hH2, _, _, hR2, hX2, hO2⟩ := hpost
        simp only at g3 g5
        have hA2 : Alike (idbL a.1) r1H C2.H := by rw [hH2]; exact Alike.refl _ _
        obtain ⟨C3, hA3, hf3, hO3, hi3⟩ := own_out hR2 hA2 g3 hO2
        obtain ⟨l4, C4, hA4, hf4, hO4⟩ := own_objs (k := 0) hf3.rel hA3 g5 (fun i o hi => by
          have hlt : i < idbL a.1 := by
            have := (List.getElem?_eq_some_iff.1 hi).1
            rw [firstO_length] at this
            exact this
          rw [firstO_get _ _ _ hlt] at hi
          injection hi with hi
          rw [Nat.zero_add]
          exact ⟨hi.symm, hlt⟩)
        rw [firstO_length] at l4
        obtain ⟨C', q1, q2, q3, q4⟩ := join_back (m := idbL a.1) (H2 := r1H) hf1.rel hf4.rel ((hX2.trans hf3.ext).trans hf4.ext) l4 hA4 (fun j o' hj => by
          have := hO4 j o' hj
          rw [Nat.zero_add] at this
          exact this)
        have hback : H' = C1.H.back l := by
          rw [← e2, hC1]
          split
          · rename_i hz
            have : l = [] := List.eq_nil_of_length_eq_zero (by omega)
            rw [this, back_nil]
          · rfl
        refine ⟨C', q1.trans hback.symm, fun j hj => ?_, Nat.le_refl _, q2, hf1.ext.trans q3, ?_⟩
        · rw [hback]
          have h7 : (C1.H.back l) j = C1.H j := if_neg (by omega)
          rw [h7]
          rw [hC1]
          exact lendL_dead (q := a.1) h1 (hT j hj)
        · cases o1 with
          | ret v =>
            cases e <;> try exact hO3.elim
            exact q4 _ _ hi3 (hf4.ext.rel hO3)
          | panic v =>
            cases e <;> try exact hO3.elim
            obtain ⟨u, hu, hv⟩ := hO3
            exact ⟨u, hu, q4 _ _ hi3 (hf4.ext.rel hv)⟩
      · cases h2
end
end Go.Vm
end
section
set_option linter.unusedVariables false
set_option linter.unusedSimpArgs false
namespace Go.Vm
open Go.RowKit

def GOk (E : Env) (F0 : Fix) : Prop := ∀ g p, E.G g = some p → ∀ C, Base F0 C → PRel C p (.pointer (some ⟨g, 0, none⟩))
def FRel (C : Cx) (T : Nat → PV) (a : Act) : Prop := a.defers = [] ∧ ∀ i, PRel C (T i) (a.tmps.getD i undef)

theorem undef_rel (C : Cx) : PRel C .undef undef := .tuple [] #[] rfl (fun i p h => by simp at h)
theorem prel_bool' {C : Cx} {p : PV} {b : Bool} (h : PRel C p (.bool b)) : p = .s (.bool b) := by
  cases h with
  | s p v h => cases h; rfl
  | aptr id ver i off ty sz cur fz ap es v h hv h1 he => cases h1
  | hsl id ver off n ty sz cur fz ap es v h hv h1 he => cases h1
theorem prel_undef {C : Cx} {p : PV} (h : PRel C p undef) : p = .undef := by
  unfold undef at h
  cases h with
  | s p v h => cases h
  | aptr id ver i off ty sz cur fz ap es v h hv h1 he => cases h1
  | hsl id ver off n ty sz cur fz ap es v h hv h1 he => cases h1
  | tuple cs vs h1 h2 => cases cs with
    | nil => rfl
    | cons => simp at h1
theorem FRel.evals {E : Env} {F0 : Fix} {C : Cx} {T : Nat → PV} {a : Act} (hG : GOk E F0) (hB : Base F0 C) (h : FRel C T a) : Evals E T C a.eval := by
  intro x p hx
  cases x with
  | tmp t =>
    simp only [evalO] at hx
    injection hx with hx
    subst hx
    exact h.2 t
  | const v => exact ofConst_rel hx
  | func f =>
    simp only [evalO] at hx
    injection hx with hx
    subst hx
    exact .s _ _ (.func f)
  | global g => exact hG g p hx C hB
theorem FRel.mono {C C' : Cx} {w w' : World} {T : Nat → PV} {a : Act} (h : FRel C T a) (hX : Ext C w C' w') : FRel C' T a := ⟨h.1, fun i => hX.rel (h.2 i)⟩
theorem FRel.put {C : Cx} {T : Nat → PV} {a : Act} {dst : Option Tmp} {p : PV} {v : Value} (h : FRel C T a) (hd : ∀ d, dst = some d → d < a.tmps.size) (hp : PRel C p v) : FRel C (putT T dst p) (a.put dst v) := by
  cases dst with
  | none => exact h
  | some d =>
    refine ⟨h.1, fun i => ?_⟩
    unfold putT upd Act.put
    simp only
    split
    · rename_i e
      subst e
      have : (a.tmps.setIfInBounds i v).getD i undef = v := by simp [Array.getD_eq_getD_getElem?, Array.getElem?_setIfInBounds, hd i rfl]
      rw [this]
      exact hp
    · rename_i e
      have : (a.tmps.setIfInBounds d v).getD i undef = a.tmps.getD i undef := by simp [Array.getD_eq_getD_getElem?, Array.getElem?_setIfInBounds_ne (Ne.symm e)]
      rw [this]
      exact h.2 i
theorem put_size {a : Act} {dst : Option Tmp} {v : Value} : (a.put dst v).tmps.size = a.tmps.size := by cases dst <;> simp [Act.put]
theorem FRel.wanted {C : Cx} {T : Nat → PV} {a : Act} {ops : Array Oper} {o : Oper} (h : FRel C T a) : Region.wanted o (yielded ops a.tmps) = wantedS ops T o.guard := by
  unfold Region.wanted wantedS yielded
  cases hg : o.guard with
  | none => rfl
  | some g =>
    obtain ⟨j, want⟩ := g
    simp only
    cases hd : (ops[j]?).bind (·.dst) with
    | none => rfl
    | some d =>
      simp only [Option.bind_some]
      have hr := h.2 d
      rw [Array.getD_eq_getD_getElem?] at hr
      cases ht : a.tmps[d]? with
      | none =>
        rw [ht] at hr
        have := prel_undef hr
        rw [this]
        rfl
      | some u =>
        rw [ht] at hr
        simp only [Option.getD_some] at hr
        split
        · rename_i b hb
          injection hb with hb
          subst hb
          rw [prel_bool' hr]
          rfl
        · rename_i hb
          split
          · rename_i b hTb
            rw [hTb] at hr
            have := prel_bool hr
            subst this
            exact absurd rfl (hb b)
          · rfl

/-- The running frame, where the call came to. -/
structure At (E : Env) (w0 : World) (F0 : Fix) (nt : Nat) (C0 : Cx) (ws : World) (n0 : Nat) (s : St) (a : Act) (w : World) : Prop where
  at_ : ∃ C, C.H = s.H ∧ Rel w0 C w ∧ Ext C0 ws C w ∧ FRel C s.T a
  tail : Tail s.H s.next
  le : n0 ≤ s.next
  size : a.tmps.size = nt
/-- What is left where code ends. -/
def Exits (E : Env) (w0 : World) (F0 : Fix) (nt : Nat) (C0 : Cx) (ws : World) (n0 : Nat) (e : Ex) (s : St) : Exit → Act → World → Prop
  | .normal, a, w => e = .normal ∧ At E w0 F0 nt C0 ws n0 s a w
  | .exit i, a, w => e = .exit i ∧ At E w0 F0 nt C0 ws n0 s a w
  | .ret, a, w => e = .ret ∧ At E w0 F0 nt C0 ws n0 s a w
  | .panic chain, a, w => a.defers = [] ∧ n0 ≤ s.next ∧ Tail s.H s.next ∧ ∃ v C u, e = .panic v ∧ C.H = s.H ∧ Rel w0 C w ∧ Ext C0 ws C w ∧ chain = [{ v := u, recovered := false }] ∧ PRel C v u
  | _, _, _ => False

section
variable {E : Env} {w0 : World} {F0 : Fix} {nt : Nat} {C0 : Cx} {ws : World} {n0 : Nat}

/-- What one operation is asked for. -/
def Goes (E : Env) (w0 : World) (F0 : Fix) (nt : Nat) (C0 : Cx) (ws : World) (n0 : Nat) (x : Step) (K : Act → World → Prop) (Q : Exit → Act → World → Prop) : Prop :=
  match x with
  | .go T H next => ∀ a w, At E w0 F0 nt C0 ws n0 ⟨T, H, next⟩ a w → K a w
  | .panic v T H next => ∀ chain a w, Exits E w0 F0 nt C0 ws n0 (.panic v) ⟨T, H, next⟩ (.panic chain) a w → Q (.panic chain) a w

theorem At.step {T : Nat → PV} {H' : Ob} {next' : Nat} {a : Act} {w w' : World} {C C' : Cx} {dst : Option Tmp} {p : PV} {v : Value} (hs : a.tmps.size = nt) (hd : ∀ d, dst = some d → d < nt) (hF : FRel C T a) (hX0 : Ext C0 ws C w)
    (hH : C'.H = H') (hR : Rel w0 C' w') (hX : Ext C w C' w') (hp : PRel C' p v) (hT : Tail H' next') (hn : n0 ≤ next') : At E w0 F0 nt C0 ws n0 ⟨putT T dst p, H', next'⟩ (a.put dst v) w' :=
  ⟨⟨C', hH, hR, hX0.trans hX, (hF.mono hX).put (fun d h => hs ▸ hd d h) hp⟩, hT, hn, put_size.trans hs⟩

theorem wpOp_of {Q : Exit → Act → World → Prop} {ops : Array Oper} {i : Nat} {o : Oper} {a : Act} {w : World} {K : Act → World → Prop} (hi : ops[i]? = some o)
    (h : if Region.wanted o (yielded ops a.tmps) then o.wp E.P a w K Q else K (a.put o.dst undef) w) : wpOp E.P ops Q i K a w := by
  unfold wpOp
  simp only [hi]
  split at h
  · rename_i hw
    rw [if_pos hw]
    exact .inl h
  · rename_i hw
    rw [if_neg hw]
    exact h

theorem set_dead {H : Ob} {id j : Nat} {o : HObj} (h : H j = .dead) (hid : H id ≠ .dead) : (H.set id o) j = .dead := by
  unfold Ob.set
  rw [if_neg (fun e : j = id => hid (by rw [← e]; exact h))]
  exact h
theorem set_ne {H : Ob} {id j : Nat} {o : HObj} (h : H j = .dead) (hid : j ≠ id) : (H.set id o) j = .dead := by
  unfold Ob.set
  rw [if_neg hid]
  exact h
theorem thaw_dead {H H' : Ob} {p : PV} {v : SV} {j : Nat} (h : thaw H p = some (v, H')) (hd : H j = .dead) : H' j = .dead := by
  unfold thaw at h
  split at h
  · injection h with h; injection h with h1 h2; subst h2; exact hd
  · split at h
    · injection h with h; injection h with h1 h2; subst h2; exact freeze1_dead hd
    · cases h
  · injection h with h; injection h with h1 h2; subst h2; exact hd
  · cases h
theorem thaws_dead {j : Nat} : ∀ {l : List PV} {H H' : Ob} {q : List SV}, thaws H l = some (q, H') → H j = .dead → H' j = .dead
  | [], H, H', q, h, hd => by
    simp only [thaws] at h
    injection h with h; injection h with h1 h2; subst h2; exact hd
  | p :: r, H, H', q, h, hd => by
    simp only [thaws] at h
    split at h
    · rename_i v H1 h1
      split at h
      · rename_i q1 H2 h2
        injection h with h; injection h with h3 h4; subst h4
        exact thaws_dead h2 (thaw_dead h1 hd)
      · cases h
    · cases h
theorem rowParts_dead {j size : Nat} : ∀ {l : List (Nat × PV)} {H H' : Ob} {c q : List (List SV)}, rowParts size H c l = some (q, H') → H j = .dead → H' j = .dead
  | [], H, H', c, q, h, hd => by
    simp only [rowParts] at h
    injection h with h; injection h with h1 h2; subst h2; exact hd
  | (i, x) :: r, H, H', c, q, h, hd => by
    simp only [rowParts] at h
    split at h
    · rename_i v H1 h1
      split at h
      · exact rowParts_dead h (thaws_dead h1 hd)
      · cases h
    · cases h
theorem buildSliceO_dead {P : Program} {t : TypeId} {H H' : Ob} {n j : Nat} {ps : List (Nat × PV)} {p : PV} (h : buildSliceO P t H n ps = some (p, H')) (hd : H j = .dead) : H' j = .dead := by
  unfold buildSliceO at h
  split at h
  · split at h
    · split at h
      · split at h
        · rename_i h1
          injection h with h; injection h with h2 h3; subst h3
          exact rowParts_dead h1 hd
        · cases h
      · cases h
    · cases h
  · cases h
theorem storeO_dead {P : Program} {t : TypeId} {H H' : Ob} {j : Nat} {p x : PV} (h : storeO P t H p x = some H') (hd : H j = .dead) : H' j = .dead := by
  unfold storeO at h
  split at h
  · split at h
    · rename_i hid
      split at h
      · injection h with h; subst h
        exact set_dead hd (by rw [hid]; intro e; cases e)
      · cases h
    · cases h
  · split at h
    · rename_i hid _
      split at h
      · split at h
        · split at h
          · split at h
            · injection h with h; subst h
              exact set_dead hd (by rw [hid]; intro e; cases e)
            · cases h
          · cases h
        · cases h
      · cases h
    · cases h
  · cases h
theorem mapUpdateO_dead {P : Program} {t : TypeId} {H H' : Ob} {j : Nat} {m k x : PV} (h : mapUpdateO P t H m k x = some H') (hd : H j = .dead) : H' j = .dead := by
  unfold mapUpdateO at h
  split at h
  · split at h
    · rename_i hid _
      split at h
      · split at h
        · injection h with h; subst h
          exact set_dead hd (by rw [hid]; intro e; cases e)
        · injection h with h; subst h
          exact set_dead hd (by rw [hid]; intro e; cases e)
        · cases h
      · cases h
    · cases h
  · cases h
theorem convertO_dead {P : Program} {t d : TypeId} {H H' : Ob} {nid j : Nat} {x p : PV} (h : convertO P t d H nid x = some (p, H')) (hd : H j = .dead) (hn : j ≠ nid) : H' j = .dead := by
  unfold convertO at h
  repeat' split at h
  all_goals first
    | cases h; done
    | (injection h with h; injection h with h2 h3; subst h3; first | exact hd | exact set_ne hd hn)
theorem makeSliceO_dead {P : Program} {t : TypeId} {H H' : Ob} {nid j : Nat} {x y p : PV} (h : makeSliceO P t H nid x y = some (p, H')) (hd : H j = .dead) (hn : j ≠ nid) : H' j = .dead := by
  unfold makeSliceO at h
  repeat' split at h
  all_goals first
    | cases h; done
    | (injection h with h; injection h with h2 h3; subst h3; first | exact hd | exact set_ne hd hn)
theorem appendO_dead {P : Program} {t t2 : TypeId} {H H' : Ob} {nid j : Nat} {x y p : PV} (h : appendO P t t2 H nid x y = some (p, H')) (hd : H j = .dead) (hn : j ≠ nid) : H' j = .dead := by
  unfold appendO at h
  repeat' split at h
  all_goals first
    | cases h; done
    | (injection h with h; injection h with h2 h3; subst h3; first | exact hd | exact set_ne hd hn | (refine set_dead hd ?_; intro e; simp_all; done))
theorem builtinO_dead {E : Env} {b : Builtin} {ts : List TypeId} {H H' : Ob} {nid j : Nat} {l : List PV} {p : PV} (h : builtinO E b ts H nid l = some (p, H')) (hd : H j = .dead) (hn : j ≠ nid) : H' j = .dead := by
  unfold builtinO at h
  split at h
  · obtain ⟨_, e⟩ := pureR_some h; exact e ▸ hd
  · exact appendO_dead h hd hn
  · obtain ⟨_, e⟩ := pureR_some h; exact e ▸ hd
  · obtain ⟨_, e⟩ := pureR_some h; exact e ▸ hd
  · cases h
theorem boxO_dead {H H' : Ob} {nid j : Nat} {t : TypeId} {x p : PV} (h : boxO H nid t x = some (p, H')) (hd : H j = .dead) (hn : j ≠ nid) : H' j = .dead := by
  unfold boxO at h
  split at h
  · injection h with h; injection h with h2 h3; subst h3; exact set_ne hd hn
  · cases h
theorem allocO_dead {P : Program} {H H' : Ob} {nid j : Nat} {t : TypeId} {p : PV} (h : allocO P H nid t = some (p, H')) (hd : H j = .dead) (hn : j ≠ nid) : H' j = .dead := by
  unfold allocO at h
  split at h
  · injection h with h; injection h with h2 h3; subst h3; exact set_ne hd hn
  · cases h
theorem unitR_dead {H' : Ob} {j : Nat} {o : Option Ob} {p : PV} (h : unitR o = some (p, H')) (ho : ∀ H1, o = some H1 → H1 j = .dead) : H' j = .dead := by
  exact ho _ (unitR_some h).1
theorem pureR_dead {H H' : Ob} {j : Nat} {o : Option PV} {p : PV} (h : pureR H o = some (p, H')) (hd : H j = .dead) : H' j = .dead := by
  obtain ⟨_, e⟩ := pureR_some h; exact e ▸ hd
def Dd (j : Nat) (o : Option (PV × Ob)) : Prop := ∀ p H', o = some (p, H') → H' j = .dead
theorem dd_bnd {α : Type} {j : Nat} {o : Option α} {f : α → Option (PV × Ob)} (h : ∀ a, Dd j (f a)) : Dd j (bnd o f) := fun p H' e => by
  obtain ⟨a, _, e⟩ := bnd_eq_some.1 e
  exact h a p H' e
theorem dd_none {j : Nat} : Dd j none := fun p H' e => by cases e
theorem dd_some {j : Nat} {p : PV} {H : Ob} (h : H j = .dead) : Dd j (some (p, H)) := fun p H' e => by injection e with e; injection e with e1 e2; subst e2; exact h
theorem dd_pureR {j : Nat} {o : Option PV} {H : Ob} (h : H j = .dead) : Dd j (pureR H o) := fun p H' e => pureR_dead e h
theorem opStep_dd {op : Op} {T : Nat → PV} {H : Ob} {nid j : Nat} (hd : H j = .dead) (hn : j ≠ nid) : Dd j (opStep E op T H nid) := by
  unfold opStep
  split
  all_goals repeat' (with_reducible first
    | exact dd_pureR hd
    | exact dd_none
    | exact dd_some hd
    | exact dd_some (set_ne hd hn)
    | (refine dd_bnd (fun _ => ?_))
    | split)
  · exact fun p H' e => allocO_dead e hd hn
  · exact fun p H' e => boxO_dead e hd hn
  · exact fun p H' e => buildSliceO_dead e hd
  · exact fun p H' e => unitR_dead e (fun H1 h1 => storeO_dead h1 hd)
  · exact fun p H' e => convertO_dead e hd hn
  · exact fun p H' e => makeSliceO_dead e hd hn
  · exact fun p H' e => unitR_dead e (fun H1 h1 => mapUpdateO_dead h1 hd)
  · exact fun p H' e => unitR_dead e (fun H1 h1 => mapUpdateO_dead h1 hd)
  · exact fun p H' e => builtinO_dead e hd hn
theorem opStep_dead {op : Op} {T : Nat → PV} {H : Ob} {nid j : Nat} {p : PV} {H' : Ob} (h : opStep E op T H nid = some (p, H')) (hd : H j = .dead) (hn : j ≠ nid) : H' j = .dead := opStep_dd hd hn p H' h
theorem opStep_alive {op : Op} {T : Nat → PV} {H : Ob} {nid : Nat} {p : PV} {H' : Ob} (h : opStep E op T H nid = some (p, H')) (hT : Tail H nid) : Tail H' (nid + 1) := 
  fun j hj => opStep_dead h (hT j (by omega)) (by omega)

theorem stepO_ok {run : Run} {ops : Array Oper} {draw : Bool} {i : Nat} {o : Oper} {T : Nat → PV} {H : Ob} {next : Nat} {x : Step} {a : Act} {w : World} {K : Act → World → Prop} {Q : Exit → Act → World → Prop}
    (hG : GOk E F0) (hB0 : Base F0 C0) (hrun : RunOk E.P w0 F0 run) (hi : ops[i]? = some o) (hd : ∀ d, o.dst = some d → d < nt)
    (h : stepO E (callE E run) run ops draw o T H next = some x) (hat : At E w0 F0 nt C0 ws n0 ⟨T, H, next⟩ a w) (hK : Goes E w0 F0 nt C0 ws n0 x K Q) : wpOp E.P ops Q i K a w := by
  obtain ⟨⟨C, hC, hR, hX, hF⟩, hT, hn, hs⟩ := hat
  simp only at hC hT hn hF
  have hB : Base F0 C := hB0.ext hX
  have hρ := hF.evals hG hB
  have hT1 : Tail H (next + 1) := fun j hj => hT j (by omega)
  apply wpOp_of hi
  unfold stepO at h
  rw [hF.wanted]
  split at h
  rotate_left
  · rename_i hw
    rw [if_neg hw]
    injection h with h
    subst h
    exact hK _ _ (At.step (C := C) hs hd hF hX hC hR (Ext.refl C w) (undef_rel C) hT1 (by omega))
  rename_i hw
  rw [if_pos hw]
  split at h
  · rename_i fv args ts hop
    obtain ⟨fv1, h1, h⟩ := bnd_eq_some.1 h
    obtain ⟨args1, h2, h⟩ := bnd_eq_some.1 h
    obtain ⟨c, h3, h⟩ := bnd_eq_some.1 h
    obtain ⟨r, h4, h⟩ := bnd_eq_some.1 h
    obtain ⟨f, fst, cap⟩ := c
    obtain ⟨ro, rH, rn⟩ := r
    simp only at h4 h
    obtain ⟨l1, r1⟩ := evalL_rel hρ h2
    have hfv := hρ _ _ h1
    have key : ∃ as bs, a.eval fv = .func (.func f) as bs ∧ fst.length = as.size ∧ (∀ (i : Nat) p, fst[i]? = some p → PRel C p (as.getD i undef)) ∧ cap.length = bs.size ∧ (∀ (i : Nat) p, cap[i]? = some p → PRel C p (bs.getD i undef)) := by
      unfold callee at h3
      split at h3
      · injection h3 with h3
        injection h3 with e1 e2
        injection e2 with e2 e3
        subst e1; subst e2; subst e3
        generalize a.eval fv = u at hfv
        cases hfv with
        | s p v h => cases h with
          | func f => exact ⟨_, _, rfl, rfl, fun i p h => by simp at h, rfl, fun i p h => by simp at h⟩
      · injection h3 with h3
        injection h3 with e1 e2
        injection e2 with e2 e3
        subst e1; subst e2; subst e3
        generalize a.eval fv = u at hfv
        cases hfv with
        | func f first cap as bs g1 g2 g3 g4 => exact ⟨_, _, rfl, g1, g2, g3, g4⟩
      · cases h3
    obtain ⟨as, bs, ev, g1, g2, g3, g4⟩ := key
    have hargs : ArgRel C (fst ++ args1 ++ cap) (as ++ args.map a.eval ++ bs) := by
      refine ⟨by simp [g1, g3, l1], fun i p hi => ?_⟩
      rw [List.append_assoc, List.getElem?_append] at hi
      rw [Array.append_assoc, Array.getD_eq_getD_getElem?, Array.getElem?_append]
      split at hi
      · rename_i hlt
        rw [if_pos (by omega)]
        have := g2 i p hi
        rwa [Array.getD_eq_getD_getElem?] at this
      · rename_i hlt
        rw [if_neg (by omega)]
        rw [List.getElem?_append] at hi
        rw [Array.getElem?_append]
        have hsz : (args.map a.eval).size = args1.length := by simp [l1]
        split at hi
        · rename_i hlt2
          rw [if_pos (by rw [hsz]; omega)]
          have := r1 _ p hi
          rw [map_toList, ← g1]
          simpa [Array.getD_eq_getD_getElem?, List.getD_eq_getElem?_getD] using this
        · rename_i hlt2
          rw [if_neg (by rw [hsz]; omega)]
          have := g4 _ p hi
          rw [hsz, ← g1]
          simpa [Array.getD_eq_getD_getElem?] using this
    obtain ⟨⟨fn, k1, k2, k3⟩, hcall⟩ := doCall_ok hrun h4 hC hT1 (fun _ => ⟨by omega, hT next (Nat.le_refl _)⟩) hR hB hargs
    have hex : (execOp a.eval o).run E.P w = .ok (.enter f (as ++ args.map a.eval ++ bs)) w := by
      obtain ⟨dst, op, type, pos, after, guard⟩ := o
      simp only at hop
      subst hop
      have k3' : fn.body ≠ none := by intro e; rw [e] at k3; cases k3
      have k2' : fn.name ≠ "runtime.NumGoroutine" := by simpa using k2
      simp [execOp, resolve, Deferred.ofValue, ev, invoke, callFunc, k1, k2', k3']
    unfold Oper.wp
    rw [hex, Oper.upon_enter]
    refine hcall.mono (fun e w2 hp => ?_)
    obtain ⟨C2, q1, q2, q3, q4, q5, q6⟩ := hp
    cases ro with
    | ret v =>
      cases e <;> try exact q6.elim
      injection h with h
      subst h
      exact hK _ _ (At.step (C := C) hs hd hF hX q1 q4 q5 q6 q2 (by omega))
    | panic v =>
      cases e <;> try exact q6.elim
      injection h with h
      subst h
      obtain ⟨u, e1, e2⟩ := q6
      exact hK _ _ _ ⟨hF.1, by simp only; omega, q2, v, C2, u, rfl, q1, q4, hX.trans q5, e1, e2⟩
  · rename_i y hop
    obtain ⟨y1, h1, h⟩ := bnd_eq_some.1 h
    have hy := hρ _ _ h1
    have fin : ∀ (t : TypeId) (u : Value), a.eval y = .iface t u → x = .panic y1 T H (next + 1) → o.wp E.P a w K Q := by
      intro t u e1 e2
      subst e2
      have hex : (execOp a.eval o).run E.P w = .halt (.panic (.iface t u)) w := by
        obtain ⟨dst, op, type, pos, after, guard⟩ := o
        simp only at hop
        subst hop
        simp [execOp, e1, Instr.panic, goPanic]
      unfold Oper.wp
      rw [hex, Oper.upon_panic]
      exact hK _ _ _ ⟨hF.1, by simp only; omega, hT1, y1, C, _, rfl, hC, hR, hX, rfl, e1 ▸ hy⟩
    split at h
    · injection h with h
      generalize hv : a.eval y = u at hy
      cases hy with
      | iface t p v g => exact fin _ _ hv h.symm
    · injection h with h
      generalize hv : a.eval y = u at hy
      cases hy with
      | s p v g => cases g with
        | iface t v u g => exact fin _ _ hv h.symm
    · cases h
  all_goals
    have main : ∀ p H', opStep E o.op T C.H next = some (p, H') → x = .go (putT T o.dst p) H' (next + 1) → o.wp E.P a w K Q := by
      intro p H' hst hx
      subst hx
      obtain ⟨n, w', C', g1, g2, g3, g4, g5⟩ := opStep_sound hR (by rw [hC]; exact hT next (Nat.le_refl _)) hρ hst
      have hT2 : Tail H' (next + 1) := opStep_alive hst (hC ▸ hT)
      unfold Oper.wp
      rw [g1]
      rcases g2 with ⟨v, e1, e2⟩ | ⟨e1, e2⟩
      · subst e1
        rw [Oper.upon_value]
        exact hK _ _ (At.step (C := C) hs hd hF hX g3 g4 g5 e2 hT2 (by omega))
      · subst e1; subst e2
        rw [Oper.upon_skip]
        exact hK _ _ (At.step (C := C) hs hd hF hX g3 g4 g5 (undef_rel C') hT2 (by omega))
  · rename_i t n ps hop
    obtain ⟨q, h1, h⟩ := bnd_eq_some.1 h
    split at h
    · cases h
    · obtain ⟨r, h2, h⟩ := bnd_eq_some.1 h
      injection h with h
      refine main r.1 r.2 ?_ h.symm
      rw [hop, hC]
      simp only [opStep, h1, h2, bnd_some]
  · obtain ⟨r, h2, h⟩ := bnd_eq_some.1 h
    injection h with h
    exact main r.1 r.2 (by rw [hC]; exact h2) h.symm
end
end Go.Vm
end
section
set_option linter.unusedVariables false
set_option linter.unusedSimpArgs false
namespace Go.Vm
open Go.RowKit

section
variable {E : Env} {w0 : World} {F0 : Fix} {nt : Nat} {C0 : Cx} {ws : World} {n0 : Nat}

theorem opsO_ok {run : Run} {ops : Array Oper} (hG : GOk E F0) (hB0 : Base F0 C0) (hrun : RunOk E.P w0 F0 run) {e : Ex} {s : St} : ∀ (os : List Oper) (l : List Nat) {T : Nat → PV} {H : Ob} {next : Nat} {a : Act} {w : World},
    os.length = l.length → (∀ (k i : Nat), l[k]? = some i → ops[i]? = os[k]?) → (∀ o ∈ os, ∀ d, o.dst = some d → d < nt) → opsO E (callE E run) run ops false os T H next = some (e, s) → At E w0 F0 nt C0 ws n0 ⟨T, H, next⟩ a w →
    wpOps E.P ops (Exits E w0 F0 nt C0 ws n0 e s) l a w
  | [], [], T, H, next, a, w, hl, hi, hd, h, hat => by
    simp only [opsO] at h
    injection h with h
    injection h with e1 e2
    subst e1; subst e2
    exact ⟨rfl, hat⟩
  | [], _ :: _, _, _, _, _, _, hl, _, _, _, _ => by simp at hl
  | _ :: _, [], _, _, _, _, _, hl, _, _, _, _ => by simp at hl
  | o :: os, i :: l, T, H, next, a, w, hl, hi, hd, h, hat => by
    rw [wpOps_cons]
    have h0 : ops[i]? = some o := by simpa using hi 0 i rfl
    simp only [opsO] at h
    obtain ⟨x, h1, h2⟩ := bnd_eq_some.1 h
    refine stepO_ok hG hB0 hrun h0 (fun d hd' => hd o (List.mem_cons_self ..) d hd') h1 hat ?_
    cases x with
    | go T1 H1 n1 =>
      intro a1 w1 hat1
      exact opsO_ok hG hB0 hrun os l (by simpa using hl) (fun k j hk => by simpa using hi (k + 1) j (by simpa using hk)) (fun o ho => hd o (List.mem_cons_of_mem _ ho)) h2 hat1
    | panic v T1 H1 n1 =>
      simp only [Bool.false_eq_true, if_false] at h2
      injection h2 with h2
      injection h2 with e1 e2
      subst e1; subst e2
      intro chain a1 w1 hx
      exact hx

/-- What code's places and its drawn regions must answer. -/
def codeOk (dk : Array Oper → Bool) (nt : Nat) : Code → Bool
  | .region _ ops draw => ops.all (fun o => match o.dst with | some d => decide (d < nt) | none => true) && (!draw || dk ops)
  | .seq a b => codeOk dk nt a && codeOk dk nt b
  | .cond _ a b => codeOk dk nt a && codeOk dk nt b
  | .block _ c => codeOk dk nt c
  | .loop c => codeOk dk nt c
  | _ => true
def DrawnOk (E : Env) (w0 : World) (F0 : Fix) (dyn : Bool) (run : Run) : Prop :=
  ∀ (nt : Nat) (C0 : Cx) (ws : World) (n0 : Nat) (id : Nat) (ops : Array Oper) (e : Ex) (s s' : St) (a : Act) (w : World), Base F0 C0 → drawOk E dyn ops = true → (∀ o ∈ ops.toList, ∀ d, o.dst = some d → d < nt) →
    (if dyn = true then (if lastR E ops = true then runT E (callE E run) run ops s else opsD E (callE E run) run ops (masks ops.toList) 0 [] ops.toList s.T (frz s.T (preS E ops) s.H) s.next) else opsO E (callE E run) run ops true ops.toList s.T s.H s.next) = some (e, s') → At E w0 F0 nt C0 ws n0 s a w → (Code.region id ops true).wp E.P (Exits E w0 F0 nt C0 ws n0 e s') a w

theorem exits_mono {e : Ex} {s : St} {Q : Exit → Act → World → Prop} {c : Code} {a : Act} {w : World} (h : c.wp E.P (Exits E w0 F0 nt C0 ws n0 e s) a w) (hq : ∀ x a w, Exits E w0 F0 nt C0 ws n0 e s x a w → Q x a w) : c.wp E.P Q a w := Code.wp_mono hq h

theorem ops_dst {ops : Array Oper} (h : ops.all (fun o => match o.dst with | some d => decide (d < nt) | none => true) = true) : ∀ o ∈ ops.toList, ∀ d, o.dst = some d → d < nt := by
  intro o ho d hd
  have := Array.all_eq_true_iff_forall_mem.1 h o (by simpa using ho)
  rw [hd] at this
  simpa using this

theorem least {p : Nat → Prop} (h : ∃ n, p n) : ∃ n, p n ∧ ∀ m, p m → n ≤ m := by
  obtain ⟨n, hn⟩ := h
  induction n using Nat.strongRecOn with
  | _ n ih =>
    by_cases hm : ∃ m, m < n ∧ p m
    · obtain ⟨m, hlt, hp⟩ := hm
      exact ih m hlt hp
    · exact ⟨n, hn, fun m hp => Nat.le_of_not_lt (fun hlt => hm ⟨m, hlt, hp⟩)⟩

theorem loopN_ok {body : St → Option (Ex × St)} {c : Code} {e : Ex} {s' : St} (hbody : ∀ s e s' a w, body s = some (e, s') → At E w0 F0 nt C0 ws n0 s a w → c.wp E.P (Exits E w0 F0 nt C0 ws n0 e s') a w) {n : Nat} {s : St} {a : Act} {w : World}
    (h : loopN body n s = some (e, s')) (hat : At E w0 F0 nt C0 ws n0 s a w) : (Code.loop c).wp E.P (Exits E w0 F0 nt C0 ws n0 e s') a w := by
  classical
  let I : Act → World → Prop := fun a w => ∃ n s, loopN body n s = some (e, s') ∧ At E w0 F0 nt C0 ws n0 s a w
  let μ : Act → World → Nat := fun a w => if hI : I a w then Classical.choose (least hI) else 0
  refine wp_loop I μ ⟨n, s, h, hat⟩ (fun a w hI => ?_)
  have hμ : μ a w = Classical.choose (least hI) := dif_pos hI
  obtain ⟨s1, h1, hat1⟩ := (Classical.choose_spec (least hI)).1
  rw [← hμ] at h1
  cases hm : μ a w with
  | zero => rw [hm] at h1; simp [loopN] at h1
  | succ m =>
    rw [hm] at h1
    simp only [loopN] at h1
    obtain ⟨⟨e2, s2⟩, h2, h3⟩ := bnd_eq_some.1 h1
    simp only at h3
    refine exits_mono (hbody _ _ _ _ _ h2 hat1) (fun x a' w' hx => ?_)
    cases x with
    | normal =>
      obtain ⟨e1, hx⟩ := hx
      subst e1
      simp only at h3
      have hI' : I a' w' := ⟨m, s2, h3, hx⟩
      refine ⟨hI', ?_⟩
      have : μ a' w' = Classical.choose (least hI') := dif_pos hI'
      rw [this]
      exact Nat.lt_succ_of_le ((Classical.choose_spec (least hI')).2 _ ⟨s2, h3, hx⟩)
    | exit i =>
      obtain ⟨e1, hx⟩ := hx
      subst e1
      injection h3 with h3
      injection h3 with e1 e2
      subst e1; subst e2
      exact ⟨rfl, hx⟩
    | ret =>
      obtain ⟨e1, hx⟩ := hx
      subst e1
      injection h3 with h3
      injection h3 with e1 e2
      subst e1; subst e2
      exact ⟨rfl, hx⟩
    | panic chain =>
      obtain ⟨g1, g2, g3, v, C, u, e1, g4⟩ := hx
      subst e1
      injection h3 with h3
      injection h3 with e1 e2
      subst e1; subst e2
      exact ⟨g1, g2, g3, v, C, u, rfl, g4⟩
    | goto l => exact hx.elim
    | outgrown => exact hx.elim

theorem exec_ok {dyn : Bool} {run : Run} (hG : GOk E F0) (hB0 : Base F0 C0) (hrun : RunOk E.P w0 F0 run) (hdr : DrawnOk E w0 F0 dyn run) {n : Nat} : ∀ (c : Code) {s s' : St} {e : Ex} {a : Act} {w : World},
    codeOk (drawOk E dyn) nt c = true → exec E dyn (callE E run) run n c s = some (e, s') → At E w0 F0 nt C0 ws n0 s a w → c.wp E.P (Exits E w0 F0 nt C0 ws n0 e s') a w
  | .skip, s, s', e, a, w, hc, h, hat => by
    simp only [exec] at h
    injection h with h
    injection h with e1 e2
    subst e1; subst e2
    exact wp_skip ⟨rfl, hat⟩
  | .label l, s, s', e, a, w, hc, h, hat => by
    simp only [exec] at h
    injection h with h
    injection h with e1 e2
    subst e1; subst e2
    exact wp_label ⟨rfl, hat⟩
  | .exit i, s, s', e, a, w, hc, h, hat => by
    simp only [exec] at h
    injection h with h
    injection h with e1 e2
    subst e1; subst e2
    exact wp_exit ⟨rfl, hat⟩
  | .ret, s, s', e, a, w, hc, h, hat => by
    simp only [exec] at h
    injection h with h
    injection h with e1 e2
    subst e1; subst e2
    exact wp_ret ⟨rfl, hat⟩
  | .region id ops draw, s, s', e, a, w, hc, h, hat => by
    simp only [exec] at h
    simp only [codeOk, Bool.and_eq_true] at hc
    have hds := ops_dst hc.1
    cases draw with
    | false =>
      rw [if_neg (by simp)] at h
      exact wp_region (opsO_ok hG hB0 hrun _ _ (by simp) (fun k i hk => by
        have hk2 : k < ops.size := by
          have := (List.getElem?_eq_some_iff.1 hk).1
          simpa using this
        rw [List.getElem?_range hk2] at hk
        injection hk with hk
        subst hk
        simp) hds h hat)
    | true => exact hdr nt C0 ws n0 id ops e s s' a w hB0 (by simpa using hc.2) hds (by simpa using h) hat
  | .seq x y, s, s', e, a, w, hc, h, hat => by
    simp only [exec] at h
    simp only [codeOk, Bool.and_eq_true] at hc
    obtain ⟨⟨e1, s1⟩, h1, h2⟩ := bnd_eq_some.1 h
    simp only at h2
    refine wp_seq (exits_mono (exec_ok hG hB0 hrun hdr x hc.1 h1 hat) (fun q a' w' hx => ?_))
    cases q with
    | normal =>
      obtain ⟨k1, hx⟩ := hx
      subst k1
      exact exec_ok hG hB0 hrun hdr y hc.2 h2 hx
    | exit i =>
      obtain ⟨k1, hx⟩ := hx
      subst k1
      injection h2 with h2
      injection h2 with k1 k2
      subst k1; subst k2
      exact ⟨rfl, hx⟩
    | ret =>
      obtain ⟨k1, hx⟩ := hx
      subst k1
      injection h2 with h2
      injection h2 with k1 k2
      subst k1; subst k2
      exact ⟨rfl, hx⟩
    | panic chain =>
      obtain ⟨g1, g2, g3, v, C, u, k1, g4⟩ := hx
      subst k1
      injection h2 with h2
      injection h2 with k1 k2
      subst k1; subst k2
      exact ⟨g1, g2, g3, v, C, u, rfl, g4⟩
    | goto l => exact hx.elim
    | outgrown => exact hx.elim
  | .cond c x y, s, s', e, a, w, hc, h, hat => by
    simp only [exec] at h
    simp only [codeOk, Bool.and_eq_true] at hc
    obtain ⟨v, h1, h2⟩ := bnd_eq_some.1 h
    split at h2
    · rename_i t
      obtain ⟨C, g1, g2, g3, g4⟩ := hat.at_
      have hv := g4.evals hG (hB0.ext g3) _ _ h1
      have hv' := prel_bool hv
      refine wp_cond hv' ?_
      cases t with
      | true =>
        simp only [if_true] at h2 ⊢
        exact exec_ok hG hB0 hrun hdr x hc.1 h2 hat
      | false =>
        simp only [Bool.false_eq_true, if_false] at h2 ⊢
        exact exec_ok hG hB0 hrun hdr y hc.2 h2 hat
    · cases h2
  | .block id c, s, s', e, a, w, hc, h, hat => by
    simp only [exec] at h
    simp only [codeOk] at hc
    obtain ⟨⟨e1, s1⟩, h1, h2⟩ := bnd_eq_some.1 h
    simp only at h2
    refine wp_block (exits_mono (exec_ok hG hB0 hrun hdr c hc h1 hat) (fun q a' w' hx => ?_))
    cases q with
    | normal =>
      obtain ⟨k1, hx⟩ := hx
      subst k1
      injection h2 with h2
      injection h2 with k1 k2
      subst k1; subst k2
      exact ⟨rfl, hx⟩
    | exit i =>
      obtain ⟨k1, hx⟩ := hx
      subst k1
      injection h2 with h2
      injection h2 with k1 k2
      subst k1; subst k2
      simp only [Exit.inBlock]
      split
      · exact ⟨rfl, hx⟩
      · exact ⟨rfl, hx⟩
    | ret =>
      obtain ⟨k1, hx⟩ := hx
      subst k1
      injection h2 with h2
      injection h2 with k1 k2
      subst k1; subst k2
      exact ⟨rfl, hx⟩
    | panic chain =>
      obtain ⟨g1, g2, g3, v, C, u, k1, g4⟩ := hx
      subst k1
      injection h2 with h2
      injection h2 with k1 k2
      subst k1; subst k2
      exact ⟨g1, g2, g3, v, C, u, rfl, g4⟩
    | goto l => exact hx.elim
    | outgrown => exact hx.elim
  | .loop c, s, s', e, a, w, hc, h, hat => by
    simp only [exec] at h
    simp only [codeOk] at hc
    exact loopN_ok (fun s e s' a w hb hat => exec_ok hG hB0 hrun hdr c hc hb hat) h hat
  | .rangeFunc .., s, s', e, a, w, hc, h, hat => by simp [exec] at h
  | .scope .., s, s', e, a, w, hc, h, hat => by simp [exec] at h
  | .goto .., s, s', e, a, w, hc, h, hat => by simp [exec] at h

def resStep (tmps : Array Value) : ResultVar → Sem Value
  | .tmp t => pure (tmps.getD t undef)
  | .cell a t => do loadVar t (← asAddr (tmps.getD a undef))
theorem results_eq (fn : Func) (tmps : Array Value) : results fn tmps = (do let vs ← fn.results.mapM (resStep tmps); pure (if h : vs.size = 1 then vs[0] else .tuple vs)) := by
  have : resStep tmps = (fun | .tmp t => pure (tmps.getD t undef) | .cell a t => do loadVar t (← asAddr (tmps.getD a undef))) := by
    funext x
    cases x <;> rfl
  unfold results
  rw [this]
  rfl
theorem resultsS_run {C : Cx} {w : World} {T : Nat → PV} {tmps : Array Value} (hR : Rel w0 C w) (hT : ∀ i, PRel C (T i) (tmps.getD i undef)) : ∀ {l : List ResultVar} {q : List PV}, resultsS E.P T C.H l = some q →
    ∃ vs : List Value, (l.mapM (resStep tmps)).run E.P w = .ok vs w ∧ q.length = vs.length ∧ ∀ (i : Nat) p, q[i]? = some p → PRel C p (vs.getD i undef)
  | [], q, h => by
    simp only [resultsS] at h
    injection h with h
    subst h
    exact ⟨[], rfl, rfl, fun i p hi => by simp at hi⟩
  | .tmp t :: r, q, h => by
    simp only [resultsS] at h
    obtain ⟨q1, h1, h2⟩ := bnd_eq_some.1 h
    injection h2 with h2
    subst h2
    obtain ⟨vs, g1, g2, g3⟩ := resultsS_run hR hT h1
    refine ⟨tmps.getD t undef :: vs, ?_, by simp [g2], fun i p hi => ?_⟩
    · simp only [List.mapM_cons, resStep, Sem.run_bind, Sem.run_pure, Result.andThen_ok, g1]
    · cases i with
      | zero =>
        simp at hi
        subst hi
        exact hT t
      | succ i => simpa using g3 i p (by simpa using hi)
  | .cell b t :: r, q, h => by
    simp only [resultsS] at h
    obtain ⟨v, h0, h⟩ := bnd_eq_some.1 h
    obtain ⟨q1, h1, h2⟩ := bnd_eq_some.1 h
    injection h2 with h2
    subst h2
    obtain ⟨vs, g1, g2, g3⟩ := resultsS_run hR hT h1
    obtain ⟨x, k1, k2⟩ := loadO_run hR h0 (hT b)
    refine ⟨x :: vs, ?_, by simp [g2], fun i p hi => ?_⟩
    · have : (resStep tmps (.cell b t)).run E.P w = .ok x w := by
        have hsome : ∃ a, tmps.getD b undef = .pointer (some a) := by
          have hb := hT b
          unfold loadO at h0
          split at h0 <;> first
            | cases h0
            | skip
          · rename_i id off hTb; rw [hTb] at hb; generalize tmps.getD b undef = u at hb; cases hb; exact ⟨_, rfl⟩
          · rename_i id off hTb; rw [hTb] at hb; generalize tmps.getD b undef = u at hb; cases hb; exact ⟨_, rfl⟩
          · rename_i id ver i off hTb
            rw [hTb] at hb
            split at h0
            · rename_i hH
              split at h0
              · rename_i hv
                generalize tmps.getD b undef = u at hb
                cases hb with
                | aptr id ver i off ty sz cur fz ap es v h hv1 h1 he =>
                  rw [h] at hH
                  injection hH with _ _ e3
                  exact ⟨_, he (by rw [← hv, ← e3])⟩
              · cases h0
            · cases h0
        obtain ⟨ad, had⟩ := hsome
        rw [had] at k1
        simp only [resStep, had]
        simpa [Instr.loadAt, Instr.sureAddr, asAddr] using k1
      simp only [List.mapM_cons, Sem.run_bind, Sem.run_pure, this, Result.andThen_ok, g1]
    · cases i with
      | zero =>
        simp at hi
        subst hi
        exact k2
      | succ i => simpa using g3 i p (by simpa using hi)
end

/-- A library's function, as the machine takes it. -/
def ExtOk (E : Env) (w0 : World) (F0 : Fix) : Prop := ∀ f g args v, E.ext f = some g → g args = some v → FnOk E.P f ∧ ∀ (C : Cx) (w : World) (vals : Array Value), Rel w0 C w → Base F0 C → ArgRel C args vals →
  Calls E.P f vals w fun e w' => ∃ C', C'.H = C.H ∧ Rel w0 C' w' ∧ Ext C w C' w' ∧ OutRel C' (.ret v) e
def CodesOk (E : Env) : Prop := ∀ f fn c, E.use f = true → E.P.funcs[f]? = some fn → fn.body = some c → codeOk (drawOk E (E.dyn f)) fn.ntmps c = true ∧ (fn.name == "runtime.NumGoroutine") = false

theorem runF_ok' {E : Env} {w0 : World} {F0 : Fix} (hG : GOk E F0) (hX : ExtOk E w0 F0) (hC : CodesOk E) (hdr : ∀ run dyn, RunOk E.P w0 F0 run → DrawnOk E w0 F0 dyn run) : ∀ n, RunOk E.P w0 F0 (runF E n)
  | 0 => fun f args H next o H' next' h => by simp [runF] at h
  | n + 1 => fun f args H next o H' next' h => by
    have hrun := runF_ok' hG hX hC hdr n
    simp only [runF] at h
    split at h
    · rename_i g hg
      obtain ⟨v, h1, h2⟩ := bnd_eq_some.1 h
      injection h2 with h2
      injection h2 with e1 e2
      injection e2 with e2 e3
      subst e1; subst e2; subst e3
      obtain ⟨k1, k2⟩ := hX f g args v hg h1
      refine ⟨k1, fun C w vals hCH hT hR hB ha => (k2 C w vals hR hB ha).mono (fun e w' hp => ?_)⟩
      obtain ⟨C', g1, g2, g3, g4⟩ := hp
      exact ⟨C', g1.trans hCH, hT, Nat.le_refl _, g2, g3, g4⟩
    · split at h
      · rename_i fn hfn
        split at h
        · rename_i c hc
          split at h
          · rename_i hcond
            obtain ⟨hlen, huse⟩ := hcond
            obtain ⟨hok, hname⟩ := hC f fn c huse hfn hc
            refine ⟨⟨fn, hfn, hname, by rw [hc]; rfl⟩, fun C w vals hCH hT hR hB ha => ?_⟩
            obtain ⟨⟨e, s⟩, h1, h2⟩ := bnd_eq_some.1 h
            refine calls_of_wp hfn hc ?_
            have hsz : vals.size ≤ fn.ntmps := by rw [← ha.1]; exact hlen
            have hat : At E w0 F0 fn.ntmps C w next ⟨enter args, H, next⟩ { tmps := vals ++ Array.replicate (fn.ntmps - vals.size) undef, defers := [] } w := by
              refine ⟨⟨C, hCH, hR, Ext.refl C w, rfl, fun i => ?_⟩, hT, Nat.le_refl _, by simp; omega⟩
              unfold enter
              simp only
              by_cases hi : i < args.length
              · have h3 : args[i]? = some (args.getD i .undef) := by simp [List.getD_eq_getElem?_getD, hi]
                have h4 := ha.2 i _ h3
                have h5 : (vals ++ Array.replicate (fn.ntmps - vals.size) undef).getD i undef = vals.getD i undef := by
                  rw [Array.getD_eq_getD_getElem?, Array.getElem?_append_left (by rw [← ha.1]; exact hi), Array.getD_eq_getD_getElem?]
                rw [h5]
                exact h4
              · have h3 : args.getD i .undef = .undef := by simp [List.getD_eq_getElem?_getD, List.getElem?_eq_none (by omega : args.length ≤ i)]
                have h5 : (vals ++ Array.replicate (fn.ntmps - vals.size) undef).getD i undef = undef := by
                  rw [Array.getD_eq_getD_getElem?, Array.getElem?_append_right (by rw [← ha.1]; omega), Array.getElem?_replicate]
                  split <;> rfl
                rw [h3, h5]
                exact undef_rel C
            refine exits_mono (exec_ok hG hB hrun (hdr _ _ hrun) c hok h1 hat) (fun x a' w' hx => ?_)
            have fin : ∀ (hx : At E w0 F0 fn.ntmps C w next s a' w') (vs : List PV), resultsS E.P s.T s.H fn.results.toList = some vs → o = .ret (packR vs) → H' = s.H → next' = s.next →
                a'.defers = [] ∧ ∃ v, (results fn a'.tmps).run E.P w' = .ok v w' ∧ Post w0 C w o H' next next' (.returned v) w' := by
              intro hx vs hvs e1 e2 e3
              subst e1; subst e2; subst e3
              obtain ⟨C', g1, g2, g3, g4⟩ := hx.at_
              rw [← g1] at hvs
              obtain ⟨us, k1, k2, k3⟩ := resultsS_run g2 g4.2 hvs
              have hres : (fn.results.mapM (resStep a'.tmps)).run E.P w' = .ok us.toArray w' := by
                rw [Array.mapM_eq_mapM_toList]
                rw [map_eq_pure_bind, Sem.run_bind, k1]
                rfl
              refine ⟨g4.1, if h : us.toArray.size = 1 then us.toArray[0] else .tuple us.toArray, ?_, C', g1, hx.tail, hx.le, g2, g3, ?_⟩
              · rw [results_eq, Sem.run_bind, hres]
                rfl
              · show PRel C' (packR vs) _
                match vs, us, k2, k3 with
                | [p], [u], _, k3 => exact k3 0 p rfl
                | [], [], _, k3 => exact .tuple _ _ rfl (fun i p hi => by simp at hi)
                | p :: p' :: r, u :: u' :: r', k2, k3 =>
                  have : ¬ (u :: u' :: r').toArray.size = 1 := by simp
                  rw [dif_neg this]
                  exact .tuple _ _ (by simpa using k2) (fun i p hi => by simpa [Array.getD_eq_getD_getElem?, List.getD_eq_getElem?_getD] using k3 i p hi)
            unfold finishO at h2
            cases x with
            | normal =>
              obtain ⟨e1, hx⟩ := hx
              subst e1
              simp only at h2
              obtain ⟨vs, h3, h4⟩ := bnd_eq_some.1 h2
              injection h4 with h4
              injection h4 with q1 q2
              injection q2 with q2 q3
              exact fin hx vs h3 q1.symm q2.symm q3.symm
            | ret =>
              obtain ⟨e1, hx⟩ := hx
              subst e1
              simp only at h2
              obtain ⟨vs, h3, h4⟩ := bnd_eq_some.1 h2
              injection h4 with h4
              injection h4 with q1 q2
              injection q2 with q2 q3
              exact fin hx vs h3 q1.symm q2.symm q3.symm
            | panic chain =>
              obtain ⟨g1, g2, g3, v, C', u, e1, g4, g5, g6, g7, g8⟩ := hx
              subst e1
              simp only at h2
              injection h2 with h2
              injection h2 with q1 q2
              injection q2 with q2 q3
              subst q1; subst q2; subst q3
              exact ⟨g1, C', g4, g3, g2, g5, g6, u, g7, g8⟩
            | exit i =>
              obtain ⟨e1, hx⟩ := hx
              subst e1
              cases h2
            | goto l => exact hx.elim
            | outgrown => exact hx.elim
          · cases h
        · cases h
      · cases h
end Go.Vm
end
