/- Expressions: what they look at. -/
import Derived.Test.YtfgkhgkgaedcmaaVmZ
set_option linter.unusedVariables false
set_option linter.unusedSimpArgs false
namespace Go.Vm

theorem valX_congr {T T2 : Nat → PV} {x : MX} (h : ∀ i ∈ sx x, T2 i = T i) : valX T2 x = valX T x := by
  cases x with
  | t i => exact h i (by simp [sx])
  | c p => rfl
theorem valM_congr {T T2 : Nat → PV} {x : Option MX} (h : ∀ i ∈ so x, T2 i = T i) : valM T2 x = valM T x := by
  cases x with
  | none => rfl
  | some x => simp only [valM]; rw [valX_congr h]
theorem map_congr' {α β : Type} {l : List α} {f g : α → β} (h : ∀ x ∈ l, f x = g x) : l.map f = l.map g := List.map_congr_left h
theorem mapX_congr {T T2 : Nat → PV} {l : List MX} (h : ∀ i ∈ l.flatMap sx, T2 i = T i) : l.map (valX T2) = l.map (valX T) :=
  map_congr' fun x hx => valX_congr fun i hi => h i (List.mem_flatMap.2 ⟨x, hx, hi⟩)
theorem mstep_congr {o : MOp} {dr : Bool} {T T2 : Nat → PV} {H : Ob} {nid : Nat} (h : ∀ i ∈ slotsOf o, T2 i = T i) : mstep o dr T2 H nid = mstep o dr T H nid := by
  cases o with
  | build z ps =>
    simp only [mstep]
    rw [map_congr' (f := fun x : Nat × Nat × MX => (x.1, x.2.1, valX T2 x.2.2)) (g := fun x => (x.1, x.2.1, valX T x.2.2)) (fun x hx => by
      rw [valX_congr fun i hi => h i (by simp only [slotsOf]; exact List.mem_flatMap.2 ⟨x, hx, hi⟩)])]
  | rows size z n ps =>
    simp only [mstep]
    have e : ∀ x ∈ ps, valX T2 x.2 = valX T x.2 := fun x hx => valX_congr fun i hi => h i (by simp only [slotsOf]; exact List.mem_flatMap.2 ⟨x, hx, hi⟩)
    rw [map_congr' (f := fun x : Nat × MX => (x.1, valX T2 x.2)) (g := fun x => (x.1, valX T x.2)) (fun x hx => by rw [e x hx])]
    have e2 : (ps.all fun x => decide (idb (valX T2 x.2) = 0)) = (ps.all fun x => decide (idb (valX T x.2) = 0)) := by
      have h1 : ∀ l : List (Nat × MX), (∀ x ∈ l, x ∈ ps) → (l.all fun x => decide (idb (valX T2 x.2) = 0)) = (l.all fun x => decide (idb (valX T x.2) = 0)) := by
        intro l hl
        induction l with
        | nil => rfl
        | cons x r ih =>
          simp only [List.all_cons]
          rw [e x (hl x (List.mem_cons_self ..)), ih (fun y hy => hl y (List.mem_cons_of_mem _ hy))]
      exact h1 ps (fun x hx => hx)
    rw [e2]
  | mkf f a b =>
    simp only [mstep]
    rw [mapX_congr (fun i hi => h i (by simp only [slotsOf, List.mem_append]; exact .inl hi)), mapX_congr (fun i hi => h i (by simp only [slotsOf, List.mem_append]; exact .inr hi))]
  | mx b x r =>
    simp only [mstep]
    rw [valX_congr (fun i hi => h i (by simp only [slotsOf, List.mem_append]; exact .inl hi)), mapX_congr (fun i hi => h i (by simp only [slotsOf, List.mem_append]; exact .inr hi))]
  | sl k x l hh =>
    simp only [mstep]
    rw [valX_congr (fun i hi => h i (by simp only [slotsOf, List.mem_append]; exact .inl (.inl hi))), valM_congr (fun i hi => h i (by simp only [slotsOf, List.mem_append]; exact .inl (.inr hi))),
      valM_congr (fun i hi => h i (by simp only [slotsOf, List.mem_append]; exact .inr hi))]
  | pick c a b =>
    simp only [mstep]
    rw [valX_congr (fun i hi => h i (by simp only [slotsOf, List.mem_append]; exact .inl (.inl hi))), valX_congr (fun i hi => h i (by simp only [slotsOf, List.mem_append]; exact .inl (.inr hi))),
      valX_congr (fun i hi => h i (by simp only [slotsOf, List.mem_append]; exact .inr hi))]
  | mupd kt m k x =>
    simp only [mstep]
    rw [valX_congr (fun i hi => h i (by simp only [slotsOf, List.mem_append]; exact .inl (.inl hi))), valX_congr (fun i hi => h i (by simp only [slotsOf, List.mem_append]; exact .inl (.inr hi))),
      valX_congr (fun i hi => h i (by simp only [slotsOf, List.mem_append]; exact .inr hi))]
  | store size a x =>
    simp only [mstep]
    rw [valX_congr (fun i hi => h i (by simp only [slotsOf, List.mem_append]; exact .inl hi)), valX_congr (fun i hi => h i (by simp only [slotsOf, List.mem_append]; exact .inr hi))]
  | bin op k x y =>
    simp only [mstep]
    rw [valX_congr (fun i hi => h i (by simp only [slotsOf, List.mem_append]; exact .inl hi)), valX_congr (fun i hi => h i (by simp only [slotsOf, List.mem_append]; exact .inr hi))]
  | mks e s z x y =>
    simp only [mstep]
    rw [valX_congr (fun i hi => h i (by simp only [slotsOf, List.mem_append]; exact .inl hi)), valX_congr (fun i hi => h i (by simp only [slotsOf, List.mem_append]; exact .inr hi))]
  | ia k x y =>
    simp only [mstep]
    rw [valX_congr (fun i hi => h i (by simp only [slotsOf, List.mem_append]; exact .inl hi)), valX_congr (fun i hi => h i (by simp only [slotsOf, List.mem_append]; exact .inr hi))]
  | iv k x y =>
    simp only [mstep]
    rw [valX_congr (fun i hi => h i (by simp only [slotsOf, List.mem_append]; exact .inl hi)), valX_congr (fun i hi => h i (by simp only [slotsOf, List.mem_append]; exact .inr hi))]
  | look kt z ok x y =>
    simp only [mstep]
    rw [valX_congr (fun i hi => h i (by simp only [slotsOf, List.mem_append]; exact .inl hi)), valX_congr (fun i hi => h i (by simp only [slotsOf, List.mem_append]; exact .inr hi))]
  | app e s x y =>
    simp only [mstep]
    rw [valX_congr (fun i hi => h i (by simp only [slotsOf, List.mem_append]; exact .inl hi)), valX_congr (fun i hi => h i (by simp only [slotsOf, List.mem_append]; exact .inr hi))]
  | alloc t z => rfl
  | mkm => rfl
  | call f a => rfl
  | callv f a => rfl
  | panic x => rfl
  | _ => simp only [mstep]; rw [valX_congr (fun i hi => h i (by simpa only [slotsOf] using hi))]

theorem convM_str_pure {b : Bool} {H : Ob} {nid nid2 : Nat} {p : PV} {r : PV × Ob} (h : convM (.str b) H nid p = some r) : r.2 = H ∧ convM (.str b) H nid2 p = some r := by
  cases p with
  | s v =>
    cases v with
    | str l =>
      simp only [convM] at h ⊢
      exact ⟨by injection h with h; subst h; rfl, h⟩
    | nils =>
      cases b with
      | false => simp [convM] at h
      | true =>
        simp only [convM] at h ⊢
        exact ⟨by injection h with h; subst h; rfl, h⟩
    | slice es f =>
      cases b with
      | false => simp [convM] at h
      | true =>
        simp only [convM] at h ⊢
        refine ⟨?_, h⟩
        split at h
        · injection h with h; subst h; rfl
        · cases h
    | _ => cases b <;> simp [convM] at h
  | hsl id ver off n =>
    cases b with
    | false => simp [convM] at h
    | true =>
      simp only [convM] at h ⊢
      refine ⟨?_, h⟩
      split at h
      · split at h
        · injection h with h; subst h; rfl
        · cases h
      · cases h
  | _ => cases b <;> simp [convM] at h
theorem pureR_shape {H : Ob} {o : Option PV} : pureR H o = bnd o fun v => some (v, H) := rfl
/-- A pure operation: a value alone, whatever number a new object would have. -/
theorem mstep_pure {o : MOp} {dr dr2 : Bool} {T : Nat → PV} {H : Ob} {nid nid2 : Nat} {r : PV × Ob} (hk : kindM o < 2) (h : mstep o dr T H nid = some r) : r.2 = H ∧ mstep o dr2 T H nid2 = some r := by
  have kp : ∀ {v : Option PV}, pureR H v = some r → r.2 = H := fun e => by obtain ⟨p, H'⟩ := r; exact (pureR_some e).2
  cases o with
  | build z ps =>
    simp only [mstep] at h ⊢
    refine ⟨?_, h⟩
    obtain ⟨c, _, h2⟩ := bnd_eq_some.1 h
    injection h2 with h2
    rw [← h2]
  | ifc t x =>
    simp only [mstep] at h ⊢
    refine ⟨?_, h⟩
    injection h with h
    rw [← h]
  | mkf f a b =>
    simp only [mstep] at h ⊢
    refine ⟨?_, h⟩
    injection h with h
    rw [← h]
  | conv k x =>
    cases k with
    | bytes e => simp [kindM] at hk
    | int k =>
      simp only [mstep] at h ⊢
      have : ∀ p, convM (.int k) H nid p = some r → r.2 = H ∧ convM (.int k) H nid2 p = some r := by
        intro p hp
        unfold convM at hp ⊢
        split at hp <;> first
          | (rename_i hkk; cases hkk; done)
          | (injection hp with hp; subst hp; exact ⟨rfl, rfl⟩)
          | (cases hp; done)
      exact this _ h
    | str b => exact convM_str_pure h
  | load agg size a => exact ⟨kp h, h⟩
  | chk x => exact ⟨kp h, h⟩
  | bin op k x y => exact ⟨kp h, h⟩
  | un op x => exact ⟨kp h, h⟩
  | sl k x l hh => exact ⟨kp h, h⟩
  | fa o x => exact ⟨kp h, h⟩
  | fv o agg size x => exact ⟨kp h, h⟩
  | ia k x i => exact ⟨kp h, h⟩
  | iv k x i => exact ⟨kp h, h⟩
  | look kt z ok m k => exact ⟨kp h, h⟩
  | ta t ok x => exact ⟨kp h, h⟩
  | ext x i => exact ⟨kp h, h⟩
  | len k x => exact ⟨kp h, h⟩
  | mx b x r => exact ⟨kp h, h⟩
  | _ => simp [kindM] at hk
/-- One that looks at no object. -/
theorem mstep_zero {o : MOp} {T : Nat → PV} {H H2 : Ob} (hk : kindM o = 0) : (bnd (mstep o false T H2 0) fun r => some r.1) = bnd (mstep o false T H 0) fun r => some r.1 := by
  have kp : ∀ {v : Option PV}, (bnd (pureR H2 v) fun r => some r.1) = bnd (pureR H v) fun r => some r.1 := fun {v} => by cases v <;> rfl
  cases o with
  | build z ps =>
    simp only [mstep]
    cases buildM (z.map .s) (ps.map fun x => (x.1, x.2.1, valX T x.2.2)) <;> rfl
  | ifc t x => rfl
  | mkf f a b => rfl
  | conv k x =>
    cases k with
    | int k =>
      simp only [mstep]
      have : ∀ p : PV, (bnd (convM (.int k) H2 0 p) fun r => some r.1) = bnd (convM (.int k) H 0 p) fun r => some r.1 := by
        intro p
        cases p with
        | s v => cases v <;> rfl
        | _ => rfl
      exact this _
    | _ => simp [kindM] at hk
  | chk x => exact kp
  | bin op k x y => exact kp
  | un op x => exact kp
  | fv o agg size x => exact kp
  | iv k x i => exact kp
  | ta t ok x => exact kp
  | ext x i => exact kp
  | mx b x r => exact kp
  | _ => simp [kindM] at hk
end Go.Vm
