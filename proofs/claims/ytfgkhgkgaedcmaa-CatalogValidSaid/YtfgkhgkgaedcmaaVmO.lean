/- A call by content, as the model runs it. -/
import Derived.Test.YtfgkhgkgaedcmaaVmN
set_option linter.unusedVariables false
set_option linter.unusedSimpArgs false
namespace Go.Vm
open Go.RowKit

def Tail (H : Ob) (next : Nat) : Prop := ∀ j, next ≤ j → H j = .dead
def OutRel (C : Cx) : Out → Ending → Prop
  | .ret v, .returned u => PRel C v u
  | .panic v, .panicked chain => ∃ u, chain = [{ v := u, recovered := false }] ∧ PRel C v u
  | _, _ => False
theorem OutRel.mono {C C' : Cx} (h : ∀ p v, PRel C p v → PRel C' p v) {o : Out} {e : Ending} (ho : OutRel C o e) : OutRel C' o e := by
  cases o <;> cases e <;> first
    | exact h _ _ ho
    | exact ho.elim
    | (obtain ⟨u, h1, h2⟩ := ho; exact ⟨u, h1, h _ _ h2⟩)
def ArgRel (C : Cx) (args : List PV) (vals : Array Value) : Prop := args.length = vals.size ∧ ∀ (i : Nat) p, args[i]? = some p → PRel C p (vals.getD i undef)
def Post (w0 : World) (C : Cx) (w : World) (o : Out) (H' : Ob) (next next' : Nat) (e : Ending) (w' : World) : Prop :=
  ∃ C', C'.H = H' ∧ Tail H' next' ∧ next ≤ next' ∧ Rel w0 C' w' ∧ Ext C w C' w' ∧ OutRel C' o e
def Base (F0 : Fix) (C : Cx) : Prop := ∀ b o v, F0 b o = some v → C.F b o = some v
theorem Base.ext {F0 : Fix} {C C' : Cx} {w w' : World} (h : Base F0 C) (hX : Ext C w C' w') : Base F0 C' := fun b o v hv => hX.F b o v (h b o v hv)
def FnOk (P : Program) (f : FuncId) : Prop := ∃ fn, P.funcs[f]? = some fn ∧ (fn.name == "runtime.NumGoroutine") = false ∧ fn.body.isNone = false
def RunOk (P : Program) (w0 : World) (F0 : Fix) (run : Run) : Prop :=
  ∀ f args H next o H' next', run f args H next = some (o, H', next') → FnOk P f ∧ ∀ (C : Cx) (w : World) (vals : Array Value), C.H = H → Tail H next → Rel w0 C w → Base F0 C → ArgRel C args vals →
    Calls P f vals w (Post w0 C w o H' next next')

section
variable {P : Program} {w w0 : World} {C : Cx}

theorem own_out {m : Nat} {H : Ob} {o o' : Out} {e : Ending} (hR : Rel w0 C w) (hA : Alike m H C.H) (h : ownOut m H o = some o') (ho : OutRel C o e) :
    ∃ C', Alike m H C'.H ∧ Froze w0 C C' w ∧ OutRel C' o' e ∧ (match o' with | .ret v => idb v ≤ m | .panic v => idb v ≤ m) := by
  cases o with
  | ret v =>
    simp only [ownOut] at h
    obtain ⟨v', h1, h2⟩ := bnd_eq_some.1 h
    injection h2 with h2
    subst h2
    cases e <;> try exact ho.elim
    obtain ⟨C', g1, g2, g3, g4⟩ := own_run hR hA h1 ho
    exact ⟨C', g1, g2, g3, g4⟩
  | panic v =>
    simp only [ownOut] at h
    obtain ⟨v', h1, h2⟩ := bnd_eq_some.1 h
    injection h2 with h2
    subst h2
    cases e <;> try exact ho.elim
    obtain ⟨u, hu, hv⟩ := ho
    obtain ⟨C', g1, g2, g3, g4⟩ := own_run hR hA h1 hv
    exact ⟨C', g1, g2, ⟨u, hu, g3⟩, g4⟩
/-- What an object has become. -/
def Owned (w : World) (m : Nat) (C : Cx) (j : Nat) (o o' : HObj) : Prop :=
  match o with
  | .box ty cells => ∃ cells' vs, o' = .box ty cells' ∧ w.heap[C.σ j]? = some (.cells vs ty (0, 0)) ∧ vs.size = cells'.length ∧ (∀ (i : Nat) p, cells'[i]? = some p → PRel C p (vs.getD i undef) ∧ (vs.getD i undef).oneCell' = true) ∧ idbL cells' ≤ m
  | o => o' = o
theorem Owned.froze {m j : Nat} {C C' : Cx} {o o' : HObj} (h : Owned w m C j o o') (hf : Froze w0 C C' w) : Owned w m C' j o o' := by
  unfold Owned at h ⊢
  cases o with
  | box ty cells =>
    obtain ⟨c, vs, h1, h2, h3, h4, h5⟩ := h
    exact ⟨c, vs, h1, by rw [hf.σ]; exact h2, h3, fun i p hi => ⟨hf.ext.rel (h4 i p hi).1, (h4 i p hi).2⟩, h5⟩
  | dead => exact h
  | sarr ty sz ver fz ap es => exact h
  | map es => exact h
theorem own_objs {m : Nat} {H : Ob} : ∀ {l q : List HObj} {k : Nat} {C : Cx}, Rel w0 C w → Alike m H C.H → ownObjs m H l = some q → (∀ (i : Nat) o, l[i]? = some o → o = H (k + i) ∧ k + i < m) →
    q.length = l.length ∧ ∃ C', Alike m H C'.H ∧ Froze w0 C C' w ∧ ∀ (i : Nat) o', q[i]? = some o' → Owned w m C' (k + i) (H (k + i)) o'
  | [], q, k, C, hR, hA, h, hl => by
    simp only [ownObjs] at h
    injection h with h
    subst h
    exact ⟨rfl, C, hA, Froze.refl hR, fun i o' hi => by simp at hi⟩
  | o :: l, q, k, C, hR, hA, h, hl => by
    simp only [ownObjs] at h
    obtain ⟨o1, h1, h2⟩ := bnd_eq_some.1 h
    obtain ⟨q1, h3, h4⟩ := bnd_eq_some.1 h2
    injection h4 with h4
    subst h4
    obtain ⟨ho, hk⟩ := hl 0 o rfl
    rw [Nat.add_zero] at ho hk
    have step : ∃ C1, Alike m H C1.H ∧ Froze w0 C C1 w ∧ Owned w m C1 k (H k) o1 := by
      rw [← ho]
      cases hob : o with
      | box ty cells =>
        rw [hob] at h1
        simp only [ownObj] at h1
        obtain ⟨c, g1, g2⟩ := bnd_eq_some.1 h1
        split at g2
        · rename_i hc
          injection g2 with g2
          subst g2
          have hCk : C.H k = .box ty cells := by rw [hA.1 k hk, ← ho, hob]
          obtain ⟨vs, k1, k2, k3, k4⟩ := hR.box k ty cells hCk
          obtain ⟨l1, C1, A1, f1, r1, i1⟩ := ownL_run (us := vs.toList) hR hA g1 (by simpa using k2.symm) (fun i p hi => by
            have := (k3 i p hi).1
            simpa [Array.getD_eq_getD_getElem?, List.getD_eq_getElem?_getD] using this)
          refine ⟨C1, A1, f1, c, vs, rfl, by rw [f1.σ]; exact k1, by simpa using l1.symm, fun i p hi => ?_, i1⟩
          have h5 := r1 i p hi
          have h6 : PRel C1 p (vs.getD i undef) := by simpa [Array.getD_eq_getD_getElem?, List.getD_eq_getElem?_getD] using h5
          exact ⟨h6, h6.one (List.all_eq_true.1 hc p (List.mem_of_getElem? hi))⟩
        · cases g2
      | dead => rw [hob] at h1; simp only [ownObj] at h1; injection h1 with h1; subst h1; exact ⟨C, hA, Froze.refl hR, rfl⟩
      | sarr ty sz ver fz ap es => rw [hob] at h1; simp only [ownObj] at h1; injection h1 with h1; subst h1; exact ⟨C, hA, Froze.refl hR, rfl⟩
      | map es => rw [hob] at h1; simp only [ownObj] at h1; injection h1 with h1; subst h1; exact ⟨C, hA, Froze.refl hR, rfl⟩
    obtain ⟨C1, A1, f1, r1⟩ := step
    obtain ⟨l2, C2, A2, f2, r2⟩ := own_objs (k := k + 1) f1.rel A1 h3 (fun i o hi => by
      have := hl (i + 1) o hi
      rw [show k + 1 + i = k + (i + 1) from by omega]
      exact this)
    refine ⟨by simp [l2], C2, A2, f1.trans f2, fun i o' hi => ?_⟩
    cases i with
    | zero =>
      simp at hi
      subst hi
      exact r1.froze f2
    | succ i =>
      rw [show k + (i + 1) = k + 1 + i from by omega]
      exact r2 i o' hi
theorem back_nil (H : Ob) : H.back [] = H := by
  funext j
  unfold Ob.back
  simp

/-- The caller's objects and what the call made of those that it was handed. -/
theorem join_back {m : Nat} {C1 Cf : Cx} {w w2 : World} {l : List HObj} {H2 : Ob} (hR1 : Rel w0 C1 w) (hRf : Rel w0 Cf w2) (hX : Ext (C1.cut m) w Cf w2) (hl : l.length = m) (hA : Alike m H2 Cf.H)
    (hO : ∀ (j : Nat) o', l[j]? = some o' → Owned w2 m Cf j (H2 j) o') :
    ∃ C', C'.H = C1.H.back l ∧ Rel w0 C' w2 ∧ Ext C1 w C' w2 ∧ ∀ p v, idb p ≤ m → PRel Cf p v → PRel C' p v := by
  let C' : Cx := { σ := fun j => if j < m then Cf.σ j else C1.σ j, cap := fun j => if j < m then Cf.cap j else C1.cap j, F := Cf.F, H := C1.H.back l }
  have hlt : ∀ j, j < m → C'.H j = l.getD j .dead ∧ C'.σ j = Cf.σ j ∧ C'.cap j = Cf.cap j := fun j h => ⟨if_pos (by omega), if_pos h, if_pos h⟩
  have hge : ∀ j, ¬ j < m → C'.H j = C1.H j ∧ C'.σ j = C1.σ j ∧ C'.cap j = C1.cap j := fun j h => ⟨if_neg (by omega), if_neg h, if_neg h⟩
  have hcut : ∀ j, j < m → (C1.cut m).H j = C1.H j := fun j h => if_pos h
  have hown : ∀ j, j < m → Owned w2 m Cf j (Cf.H j) (C'.H j) := by
    intro j h
    have h1 : l[j]? = some (l.getD j .dead) := by simp [List.getD_eq_getElem?_getD, show j < l.length by omega]
    have := hO j _ h1
    rw [← hA.1 j h] at this
    rw [(hlt j h).1]
    exact this
  have hk1 : ∀ j, j < m → Keeps Cf C' j := by
    intro j h
    obtain ⟨_, e2, e3⟩ := hlt j h
    have := hown j h
    unfold Owned at this
    unfold Keeps
    cases hb : Cf.H j with
    | dead => trivial
    | box ty cells => rw [hb] at this; obtain ⟨c, vs, g1, _⟩ := this; exact ⟨c, g1, e2⟩
    | sarr ty sz ver fz ap es => rw [hb] at this; exact ⟨ver, fz, es, this, Nat.le_refl _, fun _ => ⟨e2, e3, rfl⟩⟩
    | map es => rw [hb] at this; exact ⟨es, this, e2⟩
  have hk : ∀ j, Keeps C1 C' j := by
    intro j
    by_cases h : j < m
    · have h1 : Keeps C1 (C1.cut m) j := by
        unfold Keeps
        have := hcut j h
        cases hb : C1.H j with
        | dead => trivial
        | box ty cells => exact ⟨cells, this.trans hb, rfl⟩
        | sarr ty sz ver fz ap es => exact ⟨ver, fz, es, this.trans hb, Nat.le_refl _, fun _ => ⟨rfl, rfl, rfl⟩⟩
        | map es => exact ⟨es, this.trans hb, rfl⟩
      exact (h1.trans (hX.keep j)).trans (hk1 j h)
    · obtain ⟨e1, e2, e3⟩ := hge j h
      unfold Keeps
      cases hb : C1.H j with
      | dead => trivial
      | box ty cells => exact ⟨cells, e1.trans hb, e2⟩
      | sarr ty sz ver fz ap es => exact ⟨ver, fz, es, e1.trans hb, Nat.le_refl _, fun _ => ⟨e2, e3, rfl⟩⟩
      | map es => exact ⟨es, e1.trans hb, e2⟩
  have hkc : ∀ j, Keeps (Cf.cut m) C' j := by
    intro j
    by_cases h : j < m
    · have e : (Cf.cut m).H j = Cf.H j := if_pos h
      have := hk1 j h
      unfold Keeps at this ⊢
      rw [e]
      exact this
    · have e : (Cf.cut m).H j = .dead := if_neg h
      unfold Keeps
      rw [e]
      trivial
  have hal : ∀ j, j < m → (C'.H j).alive = true → (Cf.H j).alive = true := by
    intro j h ha
    have := hown j h
    unfold Owned at this
    cases hb : Cf.H j with
    | dead => rw [hb] at this; rw [this] at ha; cases ha
    | box ty cells => rfl
    | sarr ty sz ver fz ap es => rfl
    | map es => rfl
  have hp : ∀ p v, idb p ≤ m → PRel Cf p v → PRel C' p v := fun p v hi hq => PRel.keep hkc rfl (hq.cut hi)
  have hapart : ∀ i j, i < m → ¬ j < m → (C'.H i).alive = true → (C1.H j).alive = true → Cf.σ i ≠ C1.σ j := by
    intro i j hi hj ha hb e
    rcases hX.fresh i (hal i hi ha) with ⟨id0, h0, e0⟩ | h0
    · obtain ⟨h1, h2⟩ := cut_alive h0
      have e1 : C1.σ id0 = C1.σ j := e0.symm.trans e
      have := hR1.inj id0 j h2 hb e1
      omega
    · have := (hR1.lt j hb).2
      omega
  refine ⟨C', rfl, Rel.ofObj hRf.below hRf.cell (fun j ha => ?_) (fun i j hi hj e => ?_) (fun j => ?_), ⟨hX.F, hk, fun b hb hn => hX.frame b hb (fun id ha e => hn id (cut_alive ha).2 e), fun j ha => ?_, hX.size, fun b o v hv => ?_⟩, hp⟩
  · by_cases h : j < m
    · rw [(hlt j h).2.1]
      exact hRf.lt j (hal j h ha)
    · obtain ⟨e1, e2, _⟩ := hge j h
      rw [e1] at ha
      rw [e2]
      have := hR1.lt j ha
      exact ⟨this.1, Nat.lt_of_lt_of_le this.2 hX.size⟩
  · by_cases h1 : i < m <;> by_cases h2 : j < m
    · rw [(hlt i h1).2.1, (hlt j h2).2.1] at e
      exact hRf.inj i j (hal i h1 hi) (hal j h2 hj) e
    · obtain ⟨e1, e2, _⟩ := hge j h2
      rw [e1] at hj
      rw [(hlt i h1).2.1, e2] at e
      exact absurd e (hapart i j h1 h2 hi hj)
    · obtain ⟨e1, e2, _⟩ := hge i h1
      rw [e1] at hi
      rw [(hlt j h2).2.1, e2] at e
      exact absurd e.symm (hapart j i h2 h1 hj hi)
    · obtain ⟨e1, e2, _⟩ := hge i h1
      obtain ⟨e3, e4, _⟩ := hge j h2
      rw [e1] at hi
      rw [e3] at hj
      rw [e2, e4] at e
      exact hR1.inj i j hi hj e
  · by_cases h : j < m
    · obtain ⟨e1, e2, e3⟩ := hlt j h
      have ho := hown j h
      have hok := hRf.objOk j
      unfold Owned at ho
      unfold ObjOk at hok ⊢
      rw [e2, e3]
      cases hb : Cf.H j with
      | dead => rw [hb] at ho; rw [ho]; trivial
      | box ty cells =>
        rw [hb] at ho hok
        obtain ⟨c, vs, g1, g2, g3, g4, g5⟩ := ho
        obtain ⟨_, _, _, _, g6⟩ := hok
        rw [g1]
        exact ⟨vs, g2, g3, fun i p hi => ⟨hp p _ (idbL_le g5 i p hi) (g4 i p hi).1, (g4 i p hi).2⟩, g6⟩
      | sarr ty sz ver fz ap es => rw [hb] at ho hok; rw [ho]; exact hok
      | map es => rw [hb] at ho hok; rw [ho]; exact hok
    · obtain ⟨e1, e2, e3⟩ := hge j h
      by_cases ha : (C1.H j).alive = true
      · have hlj := hR1.lt j ha
        have hne : ∀ id, ((C1.cut m).H id).alive = true → (C1.cut m).σ id ≠ C1.σ j := by
          intro id hid e
          obtain ⟨h1, h2⟩ := cut_alive hid
          have := hR1.inj id j h2 ha e
          omega
        refine (hR1.objOk j).move e1 e2 e3 (hX.frame _ hlj.2 hne) hX.F (fun o => ?_) hk
        cases hq : C1.F (C1.σ j) o with
        | some v => exact hX.F _ _ _ hq
        | none =>
          show Cf.F (C1.σ j) o = none
          cases hv : Cf.F (C1.σ j) o with
          | none => rfl
          | some v =>
            rcases hX.Fnew _ _ _ hv with h1 | h1 | ⟨id, h1, h2⟩
            · have h1' : C1.F (C1.σ j) o = some v := h1
              rw [hq] at h1'
              cases h1'
            · omega
            · exact absurd h2 (hne id h1)
      · have hd : C1.H j = .dead := by
          cases hb : C1.H j <;> rw [hb] at ha <;> first | rfl | exact absurd rfl ha
        unfold ObjOk
        rw [e1, hd]
        trivial
  · by_cases h : j < m
    · rw [(hlt j h).2.1]
      rcases hX.fresh j (hal j h ha) with ⟨id0, h0, e0⟩ | h0
      · exact .inl ⟨id0, (cut_alive h0).2, e0⟩
      · exact .inr h0
    · obtain ⟨e1, e2, _⟩ := hge j h
      rw [e1] at ha
      exact .inl ⟨j, ha, e2⟩
  · rcases hX.Fnew b o v hv with h1 | h1 | ⟨id, h1, h2⟩
    · exact .inl h1
    · exact .inr (.inl h1)
    · exact .inr (.inr ⟨id, (cut_alive h1).2, h2⟩)

theorem freeze1_dead {H : Ob} {id j : Nat} (h : H j = .dead) : freeze1 H id j = .dead := by
  unfold freeze1
  by_cases e : j = id
  · subst e
    rw [h]
    exact h
  · cases hq : H id <;> simp only [] <;> first | exact h | (show (if j = id then _ else H j) = _; rw [if_neg e]; exact h)
mutual
theorem lend_dead {j : Nat} : ∀ {p q : PV} {H H' : Ob}, lend H p = some (q, H') → H j = .dead → H' j = .dead
  | .hsl id ver off n, q, H, H', h, hd => by
    simp only [lend] at h
    obtain ⟨es, h1, h2⟩ := bnd_eq_some.1 h
    injection h2 with h2
    injection h2 with h3 h4
    subst h4
    exact freeze1_dead hd
  | .agg cs, q, H, H', h, hd => by
    simp only [lend] at h
    obtain ⟨r, h1, h2⟩ := bnd_eq_some.1 h
    injection h2 with h2
    injection h2 with h3 h4
    subst h4
    exact lendL_dead (q := r.1) h1 hd
  | .s _, q, H, H', h, hd => by simp only [lend] at h; injection h with h; injection h with h3 h4; subst h4; exact hd
  | .ptr _ _, q, H, H', h, hd => by simp only [lend] at h; injection h with h; injection h with h3 h4; subst h4; exact hd
  | .eptr _ _ _, q, H, H', h, hd => by simp only [lend] at h; injection h with h; injection h with h3 h4; subst h4; exact hd
  | .aptr _ _ _ _, q, H, H', h, hd => by simp only [lend] at h; injection h with h; injection h with h3 h4; subst h4; exact hd
  | .func _ _ _, q, H, H', h, hd => by simp only [lend] at h; injection h with h; injection h with h3 h4; subst h4; exact hd
  | .iface _ _, q, H, H', h, hd => by simp only [lend] at h; injection h with h; injection h with h3 h4; subst h4; exact hd
  | .map _, q, H, H', h, hd => by simp only [lend] at h; injection h with h; injection h with h3 h4; subst h4; exact hd
  | .tuple _, q, H, H', h, hd => by simp only [lend] at h; injection h with h; injection h with h3 h4; subst h4; exact hd
theorem lendL_dead {j : Nat} : ∀ {l q : List PV} {H H' : Ob}, lendL H l = some (q, H') → H j = .dead → H' j = .dead
  | [], q, H, H', h, hd => by
    simp only [lendL] at h
    injection h with h
    injection h with h1 h2
    subst h2
    exact hd
  | p :: r, q, H, H', h, hd => by
    simp only [lendL] at h
    obtain ⟨a, h1, h2⟩ := bnd_eq_some.1 h
    obtain ⟨b, h3, h4⟩ := bnd_eq_some.1 h2
    injection h4 with h4
    injection h4 with e1 e2
    subst e2
    exact lendL_dead (q := b.1) h3 (lend_dead (q := a.1) h1 hd)
end
theorem Froze.extOf {C C1 C2 : Cx} {w w1 : World} (h : Ext C w C1 w1) (h' : Froze w0 C1 C2 w1) : Ext C w C2 w1 := h.trans h'.ext
theorem doCall_ok {E : Env} {run : Run} {draw : Bool} {f : FuncId} {args : List PV} {H : Ob} {next : Nat} {o : Out} {H' : Ob} {next' : Nat} {vals : Array Value} {F0 : Fix} (hrun : RunOk E.P w0 F0 run)
    (h : doCall E (callC run) run draw f args H next = some (o, H', next')) (hC : C.H = H) (hT : Tail H next) (hR : Rel w0 C w) (hB : Base F0 C) (ha : ArgRel C args vals) : FnOk E.P f ∧ Calls E.P f vals w (Post w0 C w o H' next next') := by
  unfold doCall at h
  split at h
  · split at h
    · cases h
    · obtain ⟨k1, k2⟩ := hrun _ _ _ _ _ _ _ h
      exact ⟨k1, k2 C w vals hC hT hR hB ha⟩
  · obtain ⟨a, h1, h2⟩ := bnd_eq_some.1 h
    simp only at h2
    split at h2
    · cases h2
    · split at h2
      · rename_i hcond
        obtain ⟨hm, hall⟩ := hcond
        obtain ⟨r, h3, h4⟩ := bnd_eq_some.1 h2
        injection h4 with h4
        injection h4 with e1 h4
        injection h4 with e2 e3
        subst e1; subst e3
        subst hC
        obtain ⟨hl0, C1, hC1, hf1, hr1⟩ := lendL_run (us := vals.toList) hR h1 (by simpa using ha.1) (fun i p hi => by
          have := ha.2 i p hi
          simpa [Array.getD_eq_getD_getElem?, List.getD_eq_getElem?_getD] using this)
        have hcl : ∀ j, j < idbL a.1 → idbO (C1.H j) ≤ idbL a.1 := by
          intro j hj
          have h5 := firstO_get a.2 _ j hj
          have := List.all_eq_true.1 hall _ (List.mem_of_getElem? h5)
          rw [hC1]
          simpa using this
        have hR0 := Rel.cut (m := idbL a.1) hf1.rel hcl
        unfold callC at h3
        rw [firstO_length] at h3
        obtain ⟨r1, g1, g2⟩ := bnd_eq_some.1 h3
        obtain ⟨o1, g3, g4⟩ := bnd_eq_some.1 g2
        obtain ⟨l, g5, g6⟩ := bnd_eq_some.1 g4
        injection g6 with g6
        subst g6
        obtain ⟨r1o, r1H, r1n⟩ := r1
        have hH0 : (C1.cut (idbL a.1)).H = Ob.of (firstO a.2 (idbL a.1)) := by rw [ofFirst, ← hC1]; rfl
        have hT0 : Tail (Ob.of (firstO a.2 (idbL a.1))) (idbL a.1) := fun j hj => by rw [ofFirst]; exact if_neg (by omega)
        have harg : ArgRel (C1.cut (idbL a.1)) a.1 vals := ⟨by simpa using hl0, fun i p hi => by
          have := (hr1 i p hi).cut (m := idbL a.1) (idbL_le (Nat.le_refl _) i p hi)
          simpa [Array.getD_eq_getD_getElem?, List.getD_eq_getElem?_getD] using this⟩
        obtain ⟨kf, kc⟩ := hrun _ _ _ _ _ _ _ g1
        refine ⟨kf, (kc _ w vals hH0 hT0 hR0 (fun b o v hv => hf1.ext.F b o v (hB b o v hv)) harg).mono (fun e w2 hpost => ?_)⟩
        obtain ⟨C2, hH2, _, _, hR2, hX2, hO2⟩ := hpost
        simp only at g3 g5
        have hA2 : Alike (idbL a.1) r1H C2.H := by rw [hH2]; exact Alike.refl _ _
        obtain ⟨C3, hA3, hf3, hO3, hi3⟩ := own_out hR2 hA2 g3 hO2
        obtain ⟨l4, C4, hA4, hf4, hO4⟩ := own_objs (k := 0) hf3.rel hA3 g5 (fun i o hi => by
          have hlt : i < idbL a.1 := by
            have := (List.getElem?_eq_some_iff.1 hi).1
            rw [firstO_length] at this
            exact this
          rw [firstO_get _ _ _ hlt] at hi
          injection hi with hi
          rw [Nat.zero_add]
          exact ⟨hi.symm, hlt⟩)
        rw [firstO_length] at l4
        obtain ⟨C', q1, q2, q3, q4⟩ := join_back (m := idbL a.1) (H2 := r1H) hf1.rel hf4.rel ((hX2.trans hf3.ext).trans hf4.ext) l4 hA4 (fun j o' hj => by
          have := hO4 j o' hj
          rw [Nat.zero_add] at this
          exact this)
        have hback : H' = C1.H.back l := by
          rw [← e2, hC1]
          split
          · rename_i hz
            have : l = [] := List.eq_nil_of_length_eq_zero (by omega)
            rw [this, back_nil]
          · rfl
        refine ⟨C', q1.trans hback.symm, fun j hj => ?_, Nat.le_refl _, q2, hf1.ext.trans q3, ?_⟩
        · rw [hback]
          have h7 : (C1.H.back l) j = C1.H j := if_neg (by omega)
          rw [h7]
          rw [hC1]
          exact lendL_dead (q := a.1) h1 (hT j hj)
        · cases o1 with
          | ret v =>
            cases e <;> try exact hO3.elim
            exact q4 _ _ hi3 (hf4.ext.rel hO3)
          | panic v =>
            cases e <;> try exact hO3.elim
            obtain ⟨u, hu, hv⟩ := hO3
            exact ⟨u, hu, q4 _ _ hi3 (hf4.ext.rel hv)⟩
      · cases h2
end
end Go.Vm
