/- One operation of the abstract machine is one of the model. -/
import Derived.Test.YtfgkhgkgaedcmaaVmL
set_option linter.unusedVariables false
set_option linter.unusedSimpArgs false
namespace Go.Vm
open Go.RowKit

/-- What an operation comes to: a value (or nothing), the objects turned, all else as it was. -/
def OpOk (P : Program) (w0 : World) (C : Cx) (w : World) (s : Sem Next) (p : PV) (H' : Ob) : Prop :=
  ∃ n w' C', s.run P w = .ok n w' ∧ ((∃ v, n = .value v ∧ PRel C' p v) ∨ n = .skip ∧ p = .undef) ∧ C'.H = H' ∧ Rel w0 C' w' ∧ Ext C w C' w'

section
variable {E : Env} {w w0 : World} {C : Cx} {T : Nat → PV} {ρ : Operand → Value}

theorem ok_pure {s : Sem Value} {p : PV} {v : Value} (hR : Rel w0 C w) (h : s.run E.P w = .ok v w) (hv : PRel C p v) : OpOk E.P w0 C w (do Pure.pure (.value (← s))) p C.H :=
  ⟨.value v, w, C, by simp only [Sem.run_bind, h, Result.andThen_ok, Sem.run_pure], .inl ⟨v, rfl, hv⟩, rfl, hR, Ext.refl C w⟩
theorem ok_value {p : PV} {v : Value} (hR : Rel w0 C w) (hv : PRel C p v) : OpOk E.P w0 C w (Pure.pure (.value v)) p C.H := ⟨.value v, w, C, rfl, .inl ⟨v, rfl, hv⟩, rfl, hR, Ext.refl C w⟩
theorem ok_made {s : Sem Value} {p : PV} {H' : Ob} (h : ∃ v w' C', s.run E.P w = .ok v w' ∧ C'.H = H' ∧ PRel C' p v ∧ Rel w0 C' w' ∧ Ext C w C' w') : OpOk E.P w0 C w (do Pure.pure (.value (← s))) p H' := by
  obtain ⟨v, w', C', h1, h2, h3, h4, h5⟩ := h
  exact ⟨.value v, w', C', by simp only [Sem.run_bind, h1, Result.andThen_ok, Sem.run_pure], .inl ⟨v, rfl, h3⟩, h2, h4, h5⟩
theorem ok_unit {s : Sem Unit} {H' : Ob} (h : ∃ w' C', s.run E.P w = .ok () w' ∧ C'.H = H' ∧ Rel w0 C' w' ∧ Ext C w C' w') : OpOk E.P w0 C w (do s; Pure.pure .skip) .undef H' := by
  obtain ⟨w', C', h1, h2, h4, h5⟩ := h
  exact ⟨.skip, w', C', by simp only [Sem.run_bind, h1, Result.andThen_ok, Sem.run_pure], .inr ⟨rfl, rfl⟩, h2, h4, h5⟩
theorem pureR_some {H : Ob} {o : Option PV} {p : PV} {H' : Ob} (h : pureR H o = some (p, H')) : o = some p ∧ H' = H := by
  unfold pureR at h
  obtain ⟨a, h1, h2⟩ := bnd_eq_some.1 h
  injection h2 with h2
  injection h2 with h3 h4
  subst h3; subst h4
  exact ⟨h1, rfl⟩
theorem unitR_some {o : Option Ob} {p : PV} {H' : Ob} (h : unitR o = some (p, H')) : o = some H' ∧ p = .undef := by
  unfold unitR at h
  obtain ⟨a, h1, h2⟩ := bnd_eq_some.1 h
  injection h2 with h2
  injection h2 with h3 h4
  subst h3; subst h4
  exact ⟨h1, rfl⟩
def Evals (E : Env) (T : Nat → PV) (C : Cx) (ρ : Operand → Value) : Prop := ∀ x p, evalO E T x = some p → PRel C p (ρ x)
theorem evalL_rel (hρ : Evals E T C ρ) : ∀ {l : List Operand} {q : List PV}, evalL E T l = some q → q.length = l.length ∧ ∀ (i : Nat) p, q[i]? = some p → PRel C p ((l.map ρ).getD i undef)
  | [], q, h => by
    simp only [evalL] at h
    injection h with h
    subst h
    exact ⟨rfl, fun i p hi => by simp at hi⟩
  | x :: r, q, h => by
    simp only [evalL] at h
    obtain ⟨a, h1, h2⟩ := bnd_eq_some.1 h
    obtain ⟨b, h3, h4⟩ := bnd_eq_some.1 h2
    injection h4 with h4
    subst h4
    obtain ⟨g1, g2⟩ := evalL_rel hρ h3
    refine ⟨by simp [g1], fun i p hi => ?_⟩
    cases i with
    | zero =>
      simp at hi
      subst hi
      exact hρ _ _ h1
    | succ i => exact g2 i p hi
theorem evalP_rel (hρ : Evals E T C ρ) : ∀ {l : List (Nat × Operand)} {q : List (Nat × PV)}, evalP E T l = some q → PartsRel C q (l.map fun x => (x.1, ρ x.2))
  | [], q, h => by
    simp only [evalP] at h
    injection h with h
    subst h
    exact ⟨rfl, fun i k p hi => by simp at hi⟩
  | (k, x) :: r, q, h => by
    simp only [evalP] at h
    obtain ⟨a, h1, h2⟩ := bnd_eq_some.1 h
    obtain ⟨b, h3, h4⟩ := bnd_eq_some.1 h2
    injection h4 with h4
    subst h4
    obtain ⟨g1, g2⟩ := evalP_rel hρ h3
    refine ⟨by simpa using g1, fun i k' p hi => ?_⟩
    cases i with
    | zero =>
      simp at hi
      obtain ⟨e1, e2⟩ := hi
      subst e1; subst e2
      exact ⟨ρ x, rfl, hρ _ _ h1⟩
    | succ i => exact g2 i k' p hi
theorem evalM_rel (hρ : Evals E T C ρ) {x : Option Operand} {q : Option PV} (h : evalM E T x = some q) : MRel C q (x.map ρ) := by
  cases x with
  | none =>
    simp only [evalM] at h
    injection h with h
    subst h
    trivial
  | some x =>
    simp only [evalM] at h
    obtain ⟨a, h1, h2⟩ := bnd_eq_some.1 h
    injection h2 with h2
    subst h2
    exact hρ _ _ h1
theorem arr1 {α : Type} {a : Array α} {x : α} (h : a.toList = [x]) : a = #[x] := by cases a; simp at h; simp [h]
theorem arr2 {α : Type} {a : Array α} {x y : α} (h : a.toList = [x, y]) : a = #[x, y] := by cases a; simp at h; simp [h]
theorem list1 {l : List Operand} {x : PV} (h : evalL E T l = some [x]) : ∃ a, l = [a] ∧ evalO E T a = some x := by
  cases l with
  | nil => simp only [evalL] at h; cases h
  | cons a r =>
    simp only [evalL] at h
    obtain ⟨p, h1, h2⟩ := bnd_eq_some.1 h
    obtain ⟨q, h3, h4⟩ := bnd_eq_some.1 h2
    injection h4 with h4
    injection h4 with h5 h6
    subst h5; subst h6
    cases r with
    | nil => exact ⟨a, rfl, h1⟩
    | cons b r =>
      simp only [evalL] at h3
      obtain ⟨p', h1', h2'⟩ := bnd_eq_some.1 h3
      obtain ⟨q', h3', h4'⟩ := bnd_eq_some.1 h2'
      cases h4'
theorem list2 {l : List Operand} {x y : PV} (h : evalL E T l = some [x, y]) : ∃ a b, l = [a, b] ∧ evalO E T a = some x ∧ evalO E T b = some y := by
  cases l with
  | nil => simp only [evalL] at h; cases h
  | cons a r =>
    simp only [evalL] at h
    obtain ⟨p, h1, h2⟩ := bnd_eq_some.1 h
    obtain ⟨q, h3, h4⟩ := bnd_eq_some.1 h2
    injection h4 with h4
    injection h4 with h5 h6
    subst h5; subst h6
    obtain ⟨b, rfl, h7⟩ := list1 h3
    exact ⟨a, b, rfl, h1, h7⟩
theorem builtinO_sound {o : Oper} {b : Builtin} {args : Array Operand} {ts : Array TypeId} {nid : Nat} {q : List PV} {p : PV} {H' : Ob} (hR : Rel w0 C w) (hd : C.H nid = .dead) (hρ : Evals E T C ρ)
    (ho : o.op = .call { callee := .builtin b, args := args, argTypes := ts }) (hq : evalL E T args.toList = some q) (h : builtinO E b ts.toList C.H nid q = some (p, H')) : OpOk E.P w0 C w (execOp ρ o) p H' := by
  have ex : execOp ρ o = (do let d ← resolve ρ { callee := .builtin b, args := args, argTypes := ts } o.type; invoke d.target d.args) := by
    unfold execOp
    rw [ho]
  unfold builtinO at h
  split at h
  · rename_i t x e2
    obtain ⟨h1, rfl⟩ := pureR_some h
    obtain ⟨a, ha, hx⟩ := list1 hq
    have e2 := arr1 (by assumption : ts.toList = [t])
    have e3 := arr1 ha
    subst e2; subst e3
    obtain ⟨v, g1, g2⟩ := lenV_run (ty := o.type) hR h1 (hρ _ _ hx)
    refine ⟨.value v, w, C, ?_, .inl ⟨v, rfl, g2⟩, rfl, hR, Ext.refl C w⟩
    rw [ex]
    simp only [resolve, Sem.run_bind, Sem.run_pure, Result.andThen_ok, invoke, builtin]
    have : (#[a] : Array Operand).map ρ = #[ρ a] := by simp
    rw [this, g1]
    rfl
  · rename_i t t2 s x e2
    obtain ⟨a, b, ha, hs, hx⟩ := list2 hq
    have e2 := arr2 (by assumption : ts.toList = [t, t2])
    have e3 := arr2 ha
    subst e2; subst e3
    obtain ⟨v, w', C', g1, g2, g3, g4, g5⟩ := appendO_run (ty := o.type) hR hd h (hρ _ _ hs) (hρ _ _ hx)
    refine ⟨.value v, w', C', ?_, .inl ⟨v, rfl, g3⟩, g2, g4, g5⟩
    rw [ex]
    simp only [resolve, Sem.run_bind, Sem.run_pure, Result.andThen_ok, invoke, builtin]
    have : (#[a, b] : Array Operand).map ρ = #[ρ a, ρ b] := by simp
    rw [this, g1]
    rfl
  · rename_i x r
    obtain ⟨h1, rfl⟩ := pureR_some h
    obtain ⟨hl, hr⟩ := evalL_rel hρ hq
    cases hargs : args.toList with
    | nil => rw [hargs] at hl; simp at hl
    | cons a l =>
      rw [hargs] at hl hr
      simp only [List.map_cons] at hr
      obtain ⟨v, g1, g2⟩ := maxMin_run (P := E.P) (w := w) (t := #[]) (ty := 0) (u := ρ a) (us := l.map ρ) h1 (hr 0 x rfl) (by simpa using hl) (fun i q hi => hr (i + 1) q hi)
      refine ⟨.value v, w, C, ?_, .inl ⟨v, rfl, g2⟩, rfl, hR, Ext.refl C w⟩
      rw [ex]
      simp only [resolve, Sem.run_bind, Sem.run_pure, Result.andThen_ok, invoke, builtin, Builtin.max_]
      have : (args.map ρ).toList = ρ a :: l.map ρ := by simp [hargs]
      rw [this]
      simp only [if_true] at g1
      simp only [g1, Result.andThen_ok]
  · rename_i x r
    obtain ⟨h1, rfl⟩ := pureR_some h
    obtain ⟨hl, hr⟩ := evalL_rel hρ hq
    cases hargs : args.toList with
    | nil => rw [hargs] at hl; simp at hl
    | cons a l =>
      rw [hargs] at hl hr
      simp only [List.map_cons] at hr
      obtain ⟨v, g1, g2⟩ := maxMin_run (P := E.P) (w := w) (t := #[]) (ty := 0) (u := ρ a) (us := l.map ρ) h1 (hr 0 x rfl) (by simpa using hl) (fun i q hi => hr (i + 1) q hi)
      refine ⟨.value v, w, C, ?_, .inl ⟨v, rfl, g2⟩, rfl, hR, Ext.refl C w⟩
      rw [ex]
      simp only [resolve, Sem.run_bind, Sem.run_pure, Result.andThen_ok, invoke, builtin, Builtin.min_]
      have : (args.map ρ).toList = ρ a :: l.map ρ := by simp [hargs]
      rw [this]
      simp only [Bool.false_eq_true, if_false] at g1
      simp only [g1, Result.andThen_ok]
  · cases h
theorem map_toList {α β : Type} (a : Array α) (f : α → β) : a.map f = (a.toList.map f).toArray := by cases a; simp
theorem prel_bool {t : Bool} {v : Value} (h : PRel C (.s (.bool t)) v) : v = .bool t := by
  cases h with
  | s _ _ h => cases h; rfl
theorem opStep_sound {o : Oper} {nid : Nat} {p : PV} {H' : Ob} (hR : Rel w0 C w) (hd : C.H nid = .dead) (hρ : Evals E T C ρ) (h : opStep E o.op T C.H nid = some (p, H')) : OpOk E.P w0 C w (execOp ρ o) p H' := by
  unfold opStep at h
  split at h
  · rename_i x ho
    obtain ⟨h1, rfl⟩ := pureR_some h
    have ex : execOp ρ o = Pure.pure (.value (ρ x)) := by unfold execOp; rw [ho]
    rw [ex]
    exact ok_value hR (hρ _ _ h1)
  · rename_i x ho
    obtain ⟨h1, rfl⟩ := pureR_some h
    have ex : execOp ρ o = Pure.pure (.value (ρ x)) := by unfold execOp; rw [ho]
    rw [ex]
    exact ok_value hR (hρ _ _ h1)
  · rename_i c a b ho
    obtain ⟨pc, h1, hA⟩ := bnd_eq_some.1 h
    obtain ⟨pa, h2, hB⟩ := bnd_eq_some.1 hA
    obtain ⟨pb, h3, hC⟩ := bnd_eq_some.1 hB
    clear h hA hB
    split at hC
    · rename_i t
      injection hC with hC
      injection hC with e1 e2
      subst e1; subst e2
      have hc := hρ _ _ h1
      have ex : execOp ρ o = (do Pure.pure (.value (if ← asBool (ρ c) then ρ a else ρ b))) := by unfold execOp; rw [ho]
      rw [ex, prel_bool hc]
      by_cases ht : t = true
      · rw [if_pos ht]
        have : (do Pure.pure (.value (if ← asBool (.bool t) then ρ a else ρ b)) : Sem Next) = Pure.pure (.value (ρ a)) := by rw [ht]; rfl
        rw [this]
        exact ok_value hR (hρ _ _ h2)
      · rw [if_neg ht]
        have : (do Pure.pure (.value (if ← asBool (.bool t) then ρ a else ρ b)) : Sem Next) = Pure.pure (.value (ρ b)) := by
          have ht' : t = false := by simpa using ht
          rw [ht']
          rfl
        rw [this]
        exact ok_value hR (hρ _ _ h3)
    · cases hC
  · rename_i t ho
    have ex : execOp ρ o = (do Pure.pure (.value (← Instr.alloc t true (.tuple #[])))) := by unfold execOp; rw [ho]
    rw [ex]
    exact ok_made (allocO_run hR hd h)
  · rename_i t x ho
    obtain ⟨px, h1, h⟩ := bnd_eq_some.1 h
    have ex : execOp ρ o = (do Pure.pure (.value (← Instr.box t (ρ x)))) := by unfold execOp; rw [ho]
    rw [ex]
    exact ok_made (boxO_run hR hd h (hρ _ _ h1))
  · rename_i t ps ho
    obtain ⟨q, h1, h⟩ := bnd_eq_some.1 h
    obtain ⟨h2, rfl⟩ := pureR_some h
    have ex : execOp ρ o = (do Pure.pure (.value (← Instr.build t (ps.map fun (i, x) => (i, ρ x))))) := by unfold execOp; rw [ho]
    rw [ex, map_toList]
    obtain ⟨v, g1, g2⟩ := buildV_run (w := w) h2 (evalP_rel hρ h1)
    exact ok_pure hR g1 g2
  · rename_i t n ps ho
    obtain ⟨q, h1, h⟩ := bnd_eq_some.1 h
    have ex : execOp ρ o = (do Pure.pure (.value (← Instr.buildSlice t n (ps.map fun (i, x) => (i, ρ x))))) := by unfold execOp; rw [ho]
    rw [ex, map_toList]
    exact ok_made (buildSliceO_run hR h (evalP_rel hρ h1))
  · rename_i t a ho
    obtain ⟨pa, h1, h⟩ := bnd_eq_some.1 h
    obtain ⟨h2, rfl⟩ := pureR_some h
    have ex : execOp ρ o = (do Pure.pure (.value (← Instr.loadAt t (ρ a)))) := by unfold execOp; rw [ho]
    rw [ex]
    obtain ⟨v, g1, g2⟩ := loadO_run hR h2 (hρ _ _ h1)
    exact ok_pure hR g1 g2
  · rename_i t a x ho
    obtain ⟨pa, h1, h⟩ := bnd_eq_some.1 h
    obtain ⟨px, h2, h⟩ := bnd_eq_some.1 h
    obtain ⟨h3, rfl⟩ := unitR_some h
    have ex : execOp ρ o = (do Instr.storeAt t (ρ a) (ρ x); Pure.pure .skip) := by unfold execOp; rw [ho]
    rw [ex]
    exact ok_unit (storeO_run hR h3 (hρ _ _ h1) (hρ _ _ h2))
  · rename_i x ho
    obtain ⟨px, h1, h⟩ := bnd_eq_some.1 h
    obtain ⟨h2, rfl⟩ := pureR_some h
    obtain ⟨rfl, g2⟩ := nilCheckV_run (P := E.P) (w := w) h2 (hρ _ _ h1) ho rfl
    exact ⟨_, w, C, g2, .inl ⟨_, rfl, hρ _ _ h1⟩, rfl, hR, Ext.refl C w⟩
  · rename_i op t x y yt ho
    obtain ⟨px, h1, h⟩ := bnd_eq_some.1 h
    obtain ⟨py, h2, h⟩ := bnd_eq_some.1 h
    obtain ⟨h3, rfl⟩ := pureR_some h
    have ex : execOp ρ o = (do Pure.pure (.value (← (do eqGuard op t x y (ρ x) (ρ y); binOp op t (ρ x) (ρ y))))) := by unfold execOp; rw [ho]
    rw [ex]
    obtain ⟨v, g1, g2⟩ := binOpS_run (w := w) (ox := x) (oy := y) h3 (hρ _ _ h1) (hρ _ _ h2)
    exact ok_pure hR g1 g2
  · rename_i op t x ho
    obtain ⟨px, h1, h⟩ := bnd_eq_some.1 h
    obtain ⟨h2, rfl⟩ := pureR_some h
    have ex : execOp ρ o = (do Pure.pure (.value (← Op.unary op (ρ x)))) := by unfold execOp; rw [ho]
    rw [ex]
    obtain ⟨v, g1, g2⟩ := unOp_run (P := E.P) (w := w) h2 (hρ _ _ h1)
    exact ok_pure hR g1 g2
  · rename_i sT dT x ho
    obtain ⟨px, h1, h⟩ := bnd_eq_some.1 h
    split at h
    · rename_i hs
      have ex : execOp ρ o = (do Pure.pure (.value (← convert sT dT (ρ x)))) := by unfold execOp; rw [ho]
      rw [ex]
      exact ok_made (convertO_run hR hd h (hρ _ _ h1) (Option.isSome_iff_exists.1 hs))
    · cases h
  · rename_i t x ho
    obtain ⟨px, h1, h⟩ := bnd_eq_some.1 h
    obtain ⟨h2, rfl⟩ := pureR_some h
    have ex : execOp ρ o = (do Pure.pure (.value (← Instr.makeInterface t (ρ x)))) := by unfold execOp; rw [ho]
    rw [ex]
    obtain ⟨v, g1, g2⟩ := ifaceV_run (w := w) h2 (hρ _ _ h1)
    exact ok_pure hR g1 g2
  · rename_i f a b ho
    obtain ⟨qa, h1, h⟩ := bnd_eq_some.1 h
    obtain ⟨qb, h2, h⟩ := bnd_eq_some.1 h
    injection h with h
    injection h with e1 e2
    subst e1; subst e2
    have ex : execOp ρ o = (do Pure.pure (.value (← Instr.makeFunc (.func f) (a.map ρ) (b.map ρ)))) := by unfold execOp; rw [ho]
    rw [ex]
    obtain ⟨l1, r1⟩ := evalL_rel hρ h1
    obtain ⟨l2, r2⟩ := evalL_rel hρ h2
    refine ok_pure hR rfl (.func f qa qb _ _ (by simpa using l1) (fun i p hi => ?_) (by simpa using l2) (fun i p hi => ?_))
    · have := r1 i p hi
      simpa [Array.getD_eq_getD_getElem?, List.getD_eq_getElem?_getD] using this
    · have := r2 i p hi
      simpa [Array.getD_eq_getD_getElem?, List.getD_eq_getElem?_getD] using this
  · rename_i t ho
    injection h with h
    injection h with e1 e2
    subst e1; subst e2
    have ex : execOp ρ o = (do Pure.pure (.value (← Instr.makeMap t none))) := by unfold execOp; rw [ho]; rfl
    rw [ex]
    exact ok_made (makeMap_run hR hd)
  · rename_i t l c ho
    obtain ⟨pl, h1, h⟩ := bnd_eq_some.1 h
    obtain ⟨pc, h2, h⟩ := bnd_eq_some.1 h
    have ex : execOp ρ o = (do Pure.pure (.value (← Instr.makeSlice t (ρ l) (ρ c)))) := by unfold execOp; rw [ho]
    rw [ex]
    exact ok_made (makeSliceO_run hR hd h (hρ _ _ h1) (hρ _ _ h2))
  · rename_i t x l hi ho
    obtain ⟨px, h1, h⟩ := bnd_eq_some.1 h
    obtain ⟨pl, h2, h⟩ := bnd_eq_some.1 h
    obtain ⟨ph, h3, h⟩ := bnd_eq_some.1 h
    obtain ⟨h4, rfl⟩ := pureR_some h
    have ex : execOp ρ o = (do Pure.pure (.value (← Instr.sliceAt t (ρ x) (l.map ρ) (hi.map ρ) none))) := by unfold execOp; rw [ho]; rfl
    rw [ex]
    obtain ⟨v, g1, g2⟩ := sliceV_run hR h4 (hρ _ _ h1) (evalM_rel hρ h2) (evalM_rel hρ h3)
    exact ok_pure hR g1 g2
  · rename_i s x f ho
    obtain ⟨px, h1, h⟩ := bnd_eq_some.1 h
    obtain ⟨h2, rfl⟩ := pureR_some h
    have ex : execOp ρ o = (do Pure.pure (.value (← Instr.fieldAt s (ρ x) f))) := by unfold execOp; rw [ho]
    rw [ex]
    obtain ⟨v, g1, g2⟩ := fieldA_run (w := w) h2 (hρ _ _ h1)
    exact ok_pure hR g1 g2
  · rename_i s x f ho
    obtain ⟨px, h1, h⟩ := bnd_eq_some.1 h
    obtain ⟨h2, rfl⟩ := pureR_some h
    have ex : execOp ρ o = (do Pure.pure (.value (← Instr.field s (ρ x) f))) := by unfold execOp; rw [ho]
    rw [ex]
    obtain ⟨v, g1, g2⟩ := fieldV_run (w := w) h2 (hρ _ _ h1)
    exact ok_pure hR g1 g2
  · rename_i t x i ho
    obtain ⟨px, h1, h⟩ := bnd_eq_some.1 h
    obtain ⟨pi, h2, h⟩ := bnd_eq_some.1 h
    obtain ⟨h3, rfl⟩ := pureR_some h
    have ex : execOp ρ o = (do Pure.pure (.value (← Instr.indexAt t (ρ x) (ρ i)))) := by unfold execOp; rw [ho]
    rw [ex]
    obtain ⟨v, g1, g2⟩ := indexA_run hR h3 (hρ _ _ h1) (hρ _ _ h2)
    exact ok_pure hR g1 g2
  · rename_i t x i ho
    obtain ⟨px, h1, h⟩ := bnd_eq_some.1 h
    obtain ⟨pi, h2, h⟩ := bnd_eq_some.1 h
    obtain ⟨h3, rfl⟩ := pureR_some h
    have ex : execOp ρ o = (do Pure.pure (.value (← Instr.index t (ρ x) (ρ i)))) := by unfold execOp; rw [ho]
    rw [ex]
    obtain ⟨v, g1, g2⟩ := indexV_run (w := w) h3 (hρ _ _ h1) (hρ _ _ h2)
    exact ok_pure hR g1 g2
  · rename_i t m k ok ho
    obtain ⟨pm, h1, h⟩ := bnd_eq_some.1 h
    obtain ⟨pk, h2, h⟩ := bnd_eq_some.1 h
    obtain ⟨h3, rfl⟩ := pureR_some h
    have ex : execOp ρ o = (do Pure.pure (.value (← Instr.lookup t (ρ m) (ρ k) ok))) := by unfold execOp; rw [ho]
    rw [ex]
    obtain ⟨v, g1, g2⟩ := lookupV_run hR h3 (hρ _ _ h1) (hρ _ _ h2)
    exact ok_pure hR g1 g2
  · rename_i t m k x ho
    obtain ⟨pm, h1, h⟩ := bnd_eq_some.1 h
    obtain ⟨pk, h2, h⟩ := bnd_eq_some.1 h
    obtain ⟨px, h3, h⟩ := bnd_eq_some.1 h
    obtain ⟨h4, rfl⟩ := unitR_some h
    have ex : execOp ρ o = (do Instr.mapUpdate t (ρ m) (ρ k) (ρ x); Pure.pure .skip) := by unfold execOp; rw [ho]
    rw [ex]
    exact ok_unit (mapUpdateO_run hR h4 (hρ _ _ h1) (hρ _ _ h2) (hρ _ _ h3))
  · rename_i t m k x ho
    obtain ⟨pm, h1, h⟩ := bnd_eq_some.1 h
    obtain ⟨pk, h2, h⟩ := bnd_eq_some.1 h
    obtain ⟨px, h3, h⟩ := bnd_eq_some.1 h
    obtain ⟨h4, rfl⟩ := unitR_some h
    have ex : execOp ρ o = (do Instr.mapUpdate t (ρ m) (ρ k) (ρ x); Pure.pure .skip) := by unfold execOp; rw [ho]
    rw [ex]
    exact ok_unit (mapUpdateO_run hR h4 (hρ _ _ h1) (hρ _ _ h2) (hρ _ _ h3))
  · rename_i x xt t ok ho
    obtain ⟨px, h1, h⟩ := bnd_eq_some.1 h
    obtain ⟨h2, rfl⟩ := pureR_some h
    have ex : execOp ρ o = (do Pure.pure (.value (← Instr.typeAssert (ρ x) xt t ok))) := by unfold execOp; rw [ho]
    rw [ex]
    obtain ⟨v, g1, g2⟩ := typeAssertV_run (w := w) h2 (hρ _ _ h1)
    exact ok_pure hR g1 g2
  · rename_i x i ho
    obtain ⟨px, h1, h⟩ := bnd_eq_some.1 h
    obtain ⟨h2, rfl⟩ := pureR_some h
    have ex : execOp ρ o = (do Pure.pure (.value (← Instr.extract (ρ x) i))) := by unfold execOp; rw [ho]
    rw [ex]
    obtain ⟨v, g1, g2⟩ := extractV_run (P := E.P) (w := w) h2 (hρ _ _ h1)
    exact ok_pure hR g1 g2
  · rename_i c ho
    obtain ⟨callee, args, ts⟩ := c
    split at h
    · rename_i b hb
      simp only at hb h
      subst hb
      obtain ⟨q, h1, h⟩ := bnd_eq_some.1 h
      exact builtinO_sound hR hd hρ ho h1 h
    · cases h
  · cases h
end
end Go.Vm
