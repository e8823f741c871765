/- Code of the abstract machine is code of the model. -/
import Derived.Test.YtfgkhgkgaedcmaaVmO
set_option linter.unusedVariables false
set_option linter.unusedSimpArgs false
namespace Go.Vm
open Go.RowKit

def GOk (E : Env) (F0 : Fix) : Prop := ∀ g p, E.G g = some p → ∀ C, Base F0 C → PRel C p (.pointer (some ⟨g, 0, none⟩))
def FRel (C : Cx) (T : Nat → PV) (a : Act) : Prop := a.defers = [] ∧ ∀ i, PRel C (T i) (a.tmps.getD i undef)

theorem undef_rel (C : Cx) : PRel C .undef undef := .tuple [] #[] rfl (fun i p h => by simp at h)
theorem prel_bool' {C : Cx} {p : PV} {b : Bool} (h : PRel C p (.bool b)) : p = .s (.bool b) := by
  cases h with
  | s p v h => cases h; rfl
  | aptr id ver i off ty sz cur fz ap es v h hv h1 he => cases h1
  | hsl id ver off n ty sz cur fz ap es v h hv h1 he => cases h1
theorem prel_undef {C : Cx} {p : PV} (h : PRel C p undef) : p = .undef := by
  unfold undef at h
  cases h with
  | s p v h => cases h
  | aptr id ver i off ty sz cur fz ap es v h hv h1 he => cases h1
  | hsl id ver off n ty sz cur fz ap es v h hv h1 he => cases h1
  | tuple cs vs h1 h2 => cases cs with
    | nil => rfl
    | cons => simp at h1
theorem FRel.evals {E : Env} {F0 : Fix} {C : Cx} {T : Nat → PV} {a : Act} (hG : GOk E F0) (hB : Base F0 C) (h : FRel C T a) : Evals E T C a.eval := by
  intro x p hx
  cases x with
  | tmp t =>
    simp only [evalO] at hx
    injection hx with hx
    subst hx
    exact h.2 t
  | const v => exact ofConst_rel hx
  | func f =>
    simp only [evalO] at hx
    injection hx with hx
    subst hx
    exact .s _ _ (.func f)
  | global g => exact hG g p hx C hB
theorem FRel.mono {C C' : Cx} {w w' : World} {T : Nat → PV} {a : Act} (h : FRel C T a) (hX : Ext C w C' w') : FRel C' T a := ⟨h.1, fun i => hX.rel (h.2 i)⟩
theorem FRel.put {C : Cx} {T : Nat → PV} {a : Act} {dst : Option Tmp} {p : PV} {v : Value} (h : FRel C T a) (hd : ∀ d, dst = some d → d < a.tmps.size) (hp : PRel C p v) : FRel C (putT T dst p) (a.put dst v) := by
  cases dst with
  | none => exact h
  | some d =>
    refine ⟨h.1, fun i => ?_⟩
    unfold putT upd Act.put
    simp only
    split
    · rename_i e
      subst e
      have : (a.tmps.setIfInBounds i v).getD i undef = v := by simp [Array.getD_eq_getD_getElem?, Array.getElem?_setIfInBounds, hd i rfl]
      rw [this]
      exact hp
    · rename_i e
      have : (a.tmps.setIfInBounds d v).getD i undef = a.tmps.getD i undef := by simp [Array.getD_eq_getD_getElem?, Array.getElem?_setIfInBounds_ne (Ne.symm e)]
      rw [this]
      exact h.2 i
theorem put_size {a : Act} {dst : Option Tmp} {v : Value} : (a.put dst v).tmps.size = a.tmps.size := by cases dst <;> simp [Act.put]
theorem FRel.wanted {C : Cx} {T : Nat → PV} {a : Act} {ops : Array Oper} {o : Oper} (h : FRel C T a) : Region.wanted o (yielded ops a.tmps) = wantedS ops T o.guard := by
  unfold Region.wanted wantedS yielded
  cases hg : o.guard with
  | none => rfl
  | some g =>
    obtain ⟨j, want⟩ := g
    simp only
    cases hd : (ops[j]?).bind (·.dst) with
    | none => rfl
    | some d =>
      simp only [Option.bind_some]
      have hr := h.2 d
      rw [Array.getD_eq_getD_getElem?] at hr
      cases ht : a.tmps[d]? with
      | none =>
        rw [ht] at hr
        have := prel_undef hr
        rw [this]
        rfl
      | some u =>
        rw [ht] at hr
        simp only [Option.getD_some] at hr
        split
        · rename_i b hb
          injection hb with hb
          subst hb
          rw [prel_bool' hr]
          rfl
        · rename_i hb
          split
          · rename_i b hTb
            rw [hTb] at hr
            have := prel_bool hr
            subst this
            exact absurd rfl (hb b)
          · rfl

/-- The running frame, where the call came to. -/
structure At (E : Env) (w0 : World) (F0 : Fix) (nt : Nat) (C0 : Cx) (ws : World) (n0 : Nat) (s : St) (a : Act) (w : World) : Prop where
  at_ : ∃ C, C.H = s.H ∧ Rel w0 C w ∧ Ext C0 ws C w ∧ FRel C s.T a
  tail : Tail s.H s.next
  le : n0 ≤ s.next
  size : a.tmps.size = nt
/-- What is left where code ends. -/
def Exits (E : Env) (w0 : World) (F0 : Fix) (nt : Nat) (C0 : Cx) (ws : World) (n0 : Nat) (e : Ex) (s : St) : Exit → Act → World → Prop
  | .normal, a, w => e = .normal ∧ At E w0 F0 nt C0 ws n0 s a w
  | .exit i, a, w => e = .exit i ∧ At E w0 F0 nt C0 ws n0 s a w
  | .ret, a, w => e = .ret ∧ At E w0 F0 nt C0 ws n0 s a w
  | .panic chain, a, w => a.defers = [] ∧ n0 ≤ s.next ∧ Tail s.H s.next ∧ ∃ v C u, e = .panic v ∧ C.H = s.H ∧ Rel w0 C w ∧ Ext C0 ws C w ∧ chain = [{ v := u, recovered := false }] ∧ PRel C v u
  | _, _, _ => False

section
variable {E : Env} {w0 : World} {F0 : Fix} {nt : Nat} {C0 : Cx} {ws : World} {n0 : Nat}

/-- What one operation is asked for. -/
def Goes (E : Env) (w0 : World) (F0 : Fix) (nt : Nat) (C0 : Cx) (ws : World) (n0 : Nat) (x : Step) (K : Act → World → Prop) (Q : Exit → Act → World → Prop) : Prop :=
  match x with
  | .go T H next => ∀ a w, At E w0 F0 nt C0 ws n0 ⟨T, H, next⟩ a w → K a w
  | .panic v T H next => ∀ chain a w, Exits E w0 F0 nt C0 ws n0 (.panic v) ⟨T, H, next⟩ (.panic chain) a w → Q (.panic chain) a w

theorem At.step {T : Nat → PV} {H' : Ob} {next' : Nat} {a : Act} {w w' : World} {C C' : Cx} {dst : Option Tmp} {p : PV} {v : Value} (hs : a.tmps.size = nt) (hd : ∀ d, dst = some d → d < nt) (hF : FRel C T a) (hX0 : Ext C0 ws C w)
    (hH : C'.H = H') (hR : Rel w0 C' w') (hX : Ext C w C' w') (hp : PRel C' p v) (hT : Tail H' next') (hn : n0 ≤ next') : At E w0 F0 nt C0 ws n0 ⟨putT T dst p, H', next'⟩ (a.put dst v) w' :=
  ⟨⟨C', hH, hR, hX0.trans hX, (hF.mono hX).put (fun d h => hs ▸ hd d h) hp⟩, hT, hn, put_size.trans hs⟩

theorem wpOp_of {Q : Exit → Act → World → Prop} {ops : Array Oper} {i : Nat} {o : Oper} {a : Act} {w : World} {K : Act → World → Prop} (hi : ops[i]? = some o)
    (h : if Region.wanted o (yielded ops a.tmps) then o.wp E.P a w K Q else K (a.put o.dst undef) w) : wpOp E.P ops Q i K a w := by
  unfold wpOp
  simp only [hi]
  split at h
  · rename_i hw
    rw [if_pos hw]
    exact .inl h
  · rename_i hw
    rw [if_neg hw]
    exact h

theorem set_dead {H : Ob} {id j : Nat} {o : HObj} (h : H j = .dead) (hid : H id ≠ .dead) : (H.set id o) j = .dead := by
  unfold Ob.set
  rw [if_neg (fun e : j = id => hid (by rw [← e]; exact h))]
  exact h
theorem set_ne {H : Ob} {id j : Nat} {o : HObj} (h : H j = .dead) (hid : j ≠ id) : (H.set id o) j = .dead := by
  unfold Ob.set
  rw [if_neg hid]
  exact h
theorem thaw_dead {H H' : Ob} {p : PV} {v : SV} {j : Nat} (h : thaw H p = some (v, H')) (hd : H j = .dead) : H' j = .dead := by
  unfold thaw at h
  split at h
  · injection h with h; injection h with h1 h2; subst h2; exact hd
  · split at h
    · injection h with h; injection h with h1 h2; subst h2; exact freeze1_dead hd
    · cases h
  · injection h with h; injection h with h1 h2; subst h2; exact hd
  · cases h
theorem thaws_dead {j : Nat} : ∀ {l : List PV} {H H' : Ob} {q : List SV}, thaws H l = some (q, H') → H j = .dead → H' j = .dead
  | [], H, H', q, h, hd => by
    simp only [thaws] at h
    injection h with h; injection h with h1 h2; subst h2; exact hd
  | p :: r, H, H', q, h, hd => by
    simp only [thaws] at h
    split at h
    · rename_i v H1 h1
      split at h
      · rename_i q1 H2 h2
        injection h with h; injection h with h3 h4; subst h4
        exact thaws_dead h2 (thaw_dead h1 hd)
      · cases h
    · cases h
theorem rowParts_dead {j size : Nat} : ∀ {l : List (Nat × PV)} {H H' : Ob} {c q : List (List SV)}, rowParts size H c l = some (q, H') → H j = .dead → H' j = .dead
  | [], H, H', c, q, h, hd => by
    simp only [rowParts] at h
    injection h with h; injection h with h1 h2; subst h2; exact hd
  | (i, x) :: r, H, H', c, q, h, hd => by
    simp only [rowParts] at h
    split at h
    · rename_i v H1 h1
      split at h
      · exact rowParts_dead h (thaws_dead h1 hd)
      · cases h
    · cases h
theorem buildSliceO_dead {P : Program} {t : TypeId} {H H' : Ob} {n j : Nat} {ps : List (Nat × PV)} {p : PV} (h : buildSliceO P t H n ps = some (p, H')) (hd : H j = .dead) : H' j = .dead := by
  unfold buildSliceO at h
  split at h
  · split at h
    · split at h
      · split at h
        · rename_i h1
          injection h with h; injection h with h2 h3; subst h3
          exact rowParts_dead h1 hd
        · cases h
      · cases h
    · cases h
  · cases h
theorem storeO_dead {P : Program} {t : TypeId} {H H' : Ob} {j : Nat} {p x : PV} (h : storeO P t H p x = some H') (hd : H j = .dead) : H' j = .dead := by
  unfold storeO at h
  split at h
  · split at h
    · rename_i hid
      split at h
      · injection h with h; subst h
        exact set_dead hd (by rw [hid]; intro e; cases e)
      · cases h
    · cases h
  · split at h
    · rename_i hid _
      split at h
      · split at h
        · split at h
          · split at h
            · injection h with h; subst h
              exact set_dead hd (by rw [hid]; intro e; cases e)
            · cases h
          · cases h
        · cases h
      · cases h
    · cases h
  · cases h
theorem mapUpdateO_dead {P : Program} {t : TypeId} {H H' : Ob} {j : Nat} {m k x : PV} (h : mapUpdateO P t H m k x = some H') (hd : H j = .dead) : H' j = .dead := by
  unfold mapUpdateO at h
  split at h
  · split at h
    · rename_i hid _
      split at h
      · split at h
        · injection h with h; subst h
          exact set_dead hd (by rw [hid]; intro e; cases e)
        · injection h with h; subst h
          exact set_dead hd (by rw [hid]; intro e; cases e)
        · cases h
      · cases h
    · cases h
  · cases h
theorem convertO_dead {P : Program} {t d : TypeId} {H H' : Ob} {nid j : Nat} {x p : PV} (h : convertO P t d H nid x = some (p, H')) (hd : H j = .dead) (hn : j ≠ nid) : H' j = .dead := by
  unfold convertO at h
  repeat' split at h
  all_goals first
    | cases h; done
    | (injection h with h; injection h with h2 h3; subst h3; first | exact hd | exact set_ne hd hn)
theorem makeSliceO_dead {P : Program} {t : TypeId} {H H' : Ob} {nid j : Nat} {x y p : PV} (h : makeSliceO P t H nid x y = some (p, H')) (hd : H j = .dead) (hn : j ≠ nid) : H' j = .dead := by
  unfold makeSliceO at h
  repeat' split at h
  all_goals first
    | cases h; done
    | (injection h with h; injection h with h2 h3; subst h3; first | exact hd | exact set_ne hd hn)
theorem appendO_dead {P : Program} {t t2 : TypeId} {H H' : Ob} {nid j : Nat} {x y p : PV} (h : appendO P t t2 H nid x y = some (p, H')) (hd : H j = .dead) (hn : j ≠ nid) : H' j = .dead := by
  unfold appendO at h
  repeat' split at h
  all_goals first
    | cases h; done
    | (injection h with h; injection h with h2 h3; subst h3; first | exact hd | exact set_ne hd hn | (refine set_dead hd ?_; intro e; simp_all; done))
theorem builtinO_dead {E : Env} {b : Builtin} {ts : List TypeId} {H H' : Ob} {nid j : Nat} {l : List PV} {p : PV} (h : builtinO E b ts H nid l = some (p, H')) (hd : H j = .dead) (hn : j ≠ nid) : H' j = .dead := by
  unfold builtinO at h
  split at h
  · obtain ⟨_, e⟩ := pureR_some h; exact e ▸ hd
  · exact appendO_dead h hd hn
  · obtain ⟨_, e⟩ := pureR_some h; exact e ▸ hd
  · obtain ⟨_, e⟩ := pureR_some h; exact e ▸ hd
  · cases h
theorem boxO_dead {H H' : Ob} {nid j : Nat} {t : TypeId} {x p : PV} (h : boxO H nid t x = some (p, H')) (hd : H j = .dead) (hn : j ≠ nid) : H' j = .dead := by
  unfold boxO at h
  split at h
  · injection h with h; injection h with h2 h3; subst h3; exact set_ne hd hn
  · cases h
theorem allocO_dead {P : Program} {H H' : Ob} {nid j : Nat} {t : TypeId} {p : PV} (h : allocO P H nid t = some (p, H')) (hd : H j = .dead) (hn : j ≠ nid) : H' j = .dead := by
  unfold allocO at h
  split at h
  · injection h with h; injection h with h2 h3; subst h3; exact set_ne hd hn
  · cases h
theorem unitR_dead {H' : Ob} {j : Nat} {o : Option Ob} {p : PV} (h : unitR o = some (p, H')) (ho : ∀ H1, o = some H1 → H1 j = .dead) : H' j = .dead := by
  exact ho _ (unitR_some h).1
theorem pureR_dead {H H' : Ob} {j : Nat} {o : Option PV} {p : PV} (h : pureR H o = some (p, H')) (hd : H j = .dead) : H' j = .dead := by
  obtain ⟨_, e⟩ := pureR_some h; exact e ▸ hd
def Dd (j : Nat) (o : Option (PV × Ob)) : Prop := ∀ p H', o = some (p, H') → H' j = .dead
theorem dd_bnd {α : Type} {j : Nat} {o : Option α} {f : α → Option (PV × Ob)} (h : ∀ a, Dd j (f a)) : Dd j (bnd o f) := fun p H' e => by
  obtain ⟨a, _, e⟩ := bnd_eq_some.1 e
  exact h a p H' e
theorem dd_none {j : Nat} : Dd j none := fun p H' e => by cases e
theorem dd_some {j : Nat} {p : PV} {H : Ob} (h : H j = .dead) : Dd j (some (p, H)) := fun p H' e => by injection e with e; injection e with e1 e2; subst e2; exact h
theorem dd_pureR {j : Nat} {o : Option PV} {H : Ob} (h : H j = .dead) : Dd j (pureR H o) := fun p H' e => pureR_dead e h
theorem opStep_dd {op : Op} {T : Nat → PV} {H : Ob} {nid j : Nat} (hd : H j = .dead) (hn : j ≠ nid) : Dd j (opStep E op T H nid) := by
  unfold opStep
  split
  all_goals repeat' (with_reducible first
    | exact dd_pureR hd
    | exact dd_none
    | exact dd_some hd
    | exact dd_some (set_ne hd hn)
    | (refine dd_bnd (fun _ => ?_))
    | split)
  · exact fun p H' e => allocO_dead e hd hn
  · exact fun p H' e => boxO_dead e hd hn
  · exact fun p H' e => buildSliceO_dead e hd
  · exact fun p H' e => unitR_dead e (fun H1 h1 => storeO_dead h1 hd)
  · exact fun p H' e => convertO_dead e hd hn
  · exact fun p H' e => makeSliceO_dead e hd hn
  · exact fun p H' e => unitR_dead e (fun H1 h1 => mapUpdateO_dead h1 hd)
  · exact fun p H' e => unitR_dead e (fun H1 h1 => mapUpdateO_dead h1 hd)
  · exact fun p H' e => builtinO_dead e hd hn
theorem opStep_dead {op : Op} {T : Nat → PV} {H : Ob} {nid j : Nat} {p : PV} {H' : Ob} (h : opStep E op T H nid = some (p, H')) (hd : H j = .dead) (hn : j ≠ nid) : H' j = .dead := opStep_dd hd hn p H' h
theorem opStep_alive {op : Op} {T : Nat → PV} {H : Ob} {nid : Nat} {p : PV} {H' : Ob} (h : opStep E op T H nid = some (p, H')) (hT : Tail H nid) : Tail H' (nid + 1) := 
  fun j hj => opStep_dead h (hT j (by omega)) (by omega)

theorem stepO_ok {run : Run} {ops : Array Oper} {draw : Bool} {i : Nat} {o : Oper} {T : Nat → PV} {H : Ob} {next : Nat} {x : Step} {a : Act} {w : World} {K : Act → World → Prop} {Q : Exit → Act → World → Prop}
    (hG : GOk E F0) (hB0 : Base F0 C0) (hrun : RunOk E.P w0 F0 run) (hi : ops[i]? = some o) (hd : ∀ d, o.dst = some d → d < nt)
    (h : stepO E (callC run) run ops draw o T H next = some x) (hat : At E w0 F0 nt C0 ws n0 ⟨T, H, next⟩ a w) (hK : Goes E w0 F0 nt C0 ws n0 x K Q) : wpOp E.P ops Q i K a w := by
  obtain ⟨⟨C, hC, hR, hX, hF⟩, hT, hn, hs⟩ := hat
  simp only at hC hT hn hF
  have hB : Base F0 C := hB0.ext hX
  have hρ := hF.evals hG hB
  have hT1 : Tail H (next + 1) := fun j hj => hT j (by omega)
  apply wpOp_of hi
  unfold stepO at h
  rw [hF.wanted]
  split at h
  rotate_left
  · rename_i hw
    rw [if_neg hw]
    injection h with h
    subst h
    exact hK _ _ (At.step (C := C) hs hd hF hX hC hR (Ext.refl C w) (undef_rel C) hT1 (by omega))
  rename_i hw
  rw [if_pos hw]
  split at h
  · rename_i fv args ts hop
    obtain ⟨fv1, h1, h⟩ := bnd_eq_some.1 h
    obtain ⟨args1, h2, h⟩ := bnd_eq_some.1 h
    obtain ⟨c, h3, h⟩ := bnd_eq_some.1 h
    obtain ⟨r, h4, h⟩ := bnd_eq_some.1 h
    obtain ⟨f, fst, cap⟩ := c
    obtain ⟨ro, rH, rn⟩ := r
    simp only at h4 h
    obtain ⟨l1, r1⟩ := evalL_rel hρ h2
    have hfv := hρ _ _ h1
    have key : ∃ as bs, a.eval fv = .func (.func f) as bs ∧ fst.length = as.size ∧ (∀ (i : Nat) p, fst[i]? = some p → PRel C p (as.getD i undef)) ∧ cap.length = bs.size ∧ (∀ (i : Nat) p, cap[i]? = some p → PRel C p (bs.getD i undef)) := by
      unfold callee at h3
      split at h3
      · injection h3 with h3
        injection h3 with e1 e2
        injection e2 with e2 e3
        subst e1; subst e2; subst e3
        generalize a.eval fv = u at hfv
        cases hfv with
        | s p v h => cases h with
          | func f => exact ⟨_, _, rfl, rfl, fun i p h => by simp at h, rfl, fun i p h => by simp at h⟩
      · injection h3 with h3
        injection h3 with e1 e2
        injection e2 with e2 e3
        subst e1; subst e2; subst e3
        generalize a.eval fv = u at hfv
        cases hfv with
        | func f first cap as bs g1 g2 g3 g4 => exact ⟨_, _, rfl, g1, g2, g3, g4⟩
      · cases h3
    obtain ⟨as, bs, ev, g1, g2, g3, g4⟩ := key
    have hargs : ArgRel C (fst ++ args1 ++ cap) (as ++ args.map a.eval ++ bs) := by
      refine ⟨by simp [g1, g3, l1], fun i p hi => ?_⟩
      rw [List.append_assoc, List.getElem?_append] at hi
      rw [Array.append_assoc, Array.getD_eq_getD_getElem?, Array.getElem?_append]
      split at hi
      · rename_i hlt
        rw [if_pos (by omega)]
        have := g2 i p hi
        rwa [Array.getD_eq_getD_getElem?] at this
      · rename_i hlt
        rw [if_neg (by omega)]
        rw [List.getElem?_append] at hi
        rw [Array.getElem?_append]
        have hsz : (args.map a.eval).size = args1.length := by simp [l1]
        split at hi
        · rename_i hlt2
          rw [if_pos (by rw [hsz]; omega)]
          have := r1 _ p hi
          rw [map_toList, ← g1]
          simpa [Array.getD_eq_getD_getElem?, List.getD_eq_getElem?_getD] using this
        · rename_i hlt2
          rw [if_neg (by rw [hsz]; omega)]
          have := g4 _ p hi
          rw [hsz, ← g1]
          simpa [Array.getD_eq_getD_getElem?] using this
    obtain ⟨⟨fn, k1, k2, k3⟩, hcall⟩ := doCall_ok hrun h4 hC hT1 hR hB hargs
    have hex : (execOp a.eval o).run E.P w = .ok (.enter f (as ++ args.map a.eval ++ bs)) w := by
      obtain ⟨dst, op, type, pos, after, guard⟩ := o
      simp only at hop
      subst hop
      have k3' : fn.body ≠ none := by intro e; rw [e] at k3; cases k3
      have k2' : fn.name ≠ "runtime.NumGoroutine" := by simpa using k2
      simp [execOp, resolve, Deferred.ofValue, ev, invoke, callFunc, k1, k2', k3']
    unfold Oper.wp
    rw [hex, Oper.upon_enter]
    refine hcall.mono (fun e w2 hp => ?_)
    obtain ⟨C2, q1, q2, q3, q4, q5, q6⟩ := hp
    cases ro with
    | ret v =>
      cases e <;> try exact q6.elim
      injection h with h
      subst h
      exact hK _ _ (At.step (C := C) hs hd hF hX q1 q4 q5 q6 q2 (by omega))
    | panic v =>
      cases e <;> try exact q6.elim
      injection h with h
      subst h
      obtain ⟨u, e1, e2⟩ := q6
      exact hK _ _ _ ⟨hF.1, by simp only; omega, q2, v, C2, u, rfl, q1, q4, hX.trans q5, e1, e2⟩
  · rename_i y hop
    obtain ⟨y1, h1, h⟩ := bnd_eq_some.1 h
    have hy := hρ _ _ h1
    have fin : ∀ (t : TypeId) (u : Value), a.eval y = .iface t u → x = .panic y1 T H (next + 1) → o.wp E.P a w K Q := by
      intro t u e1 e2
      subst e2
      have hex : (execOp a.eval o).run E.P w = .halt (.panic (.iface t u)) w := by
        obtain ⟨dst, op, type, pos, after, guard⟩ := o
        simp only at hop
        subst hop
        simp [execOp, e1, Instr.panic, goPanic]
      unfold Oper.wp
      rw [hex, Oper.upon_panic]
      exact hK _ _ _ ⟨hF.1, by simp only; omega, hT1, y1, C, _, rfl, hC, hR, hX, rfl, e1 ▸ hy⟩
    split at h
    · injection h with h
      generalize hv : a.eval y = u at hy
      cases hy with
      | iface t p v g => exact fin _ _ hv h.symm
    · injection h with h
      generalize hv : a.eval y = u at hy
      cases hy with
      | s p v g => cases g with
        | iface t v u g => exact fin _ _ hv h.symm
    · cases h
  all_goals
    have main : ∀ p H', opStep E o.op T C.H next = some (p, H') → x = .go (putT T o.dst p) H' (next + 1) → o.wp E.P a w K Q := by
      intro p H' hst hx
      subst hx
      obtain ⟨n, w', C', g1, g2, g3, g4, g5⟩ := opStep_sound hR (by rw [hC]; exact hT next (Nat.le_refl _)) hρ hst
      have hT2 : Tail H' (next + 1) := opStep_alive hst (hC ▸ hT)
      unfold Oper.wp
      rw [g1]
      rcases g2 with ⟨v, e1, e2⟩ | ⟨e1, e2⟩
      · subst e1
        rw [Oper.upon_value]
        exact hK _ _ (At.step (C := C) hs hd hF hX g3 g4 g5 e2 hT2 (by omega))
      · subst e1; subst e2
        rw [Oper.upon_skip]
        exact hK _ _ (At.step (C := C) hs hd hF hX g3 g4 g5 (undef_rel C') hT2 (by omega))
  · rename_i t n ps hop
    obtain ⟨q, h1, h⟩ := bnd_eq_some.1 h
    split at h
    · cases h
    · obtain ⟨r, h2, h⟩ := bnd_eq_some.1 h
      injection h with h
      refine main r.1 r.2 ?_ h.symm
      rw [hop, hC]
      simp only [opStep, h1, h2, bnd_some]
  · obtain ⟨r, h2, h⟩ := bnd_eq_some.1 h
    injection h with h
    exact main r.1 r.2 (by rw [hC]; exact h2) h.symm
end
end Go.Vm
