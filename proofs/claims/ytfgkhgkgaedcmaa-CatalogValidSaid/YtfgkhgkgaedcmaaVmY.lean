/- Runs without a bound on the steps, and the rules to reckon with. -/
import Derived.Test.YtfgkhgkgaedcmaaVmW
set_option linter.unusedVariables false
set_option linter.unusedSimpArgs false
namespace Go.Vm
open Go.RowKit

/-- From some bound on, always this. -/
def Evn {α : Type} (g : Nat → Option α) (r : α) : Prop := ∃ N, ∀ n, N ≤ n → g n = some r
theorem Evn.uniq {α : Type} {g : Nat → Option α} {r r' : α} (h : Evn g r) (h' : Evn g r') : r = r' := by
  obtain ⟨N, h⟩ := h
  obtain ⟨M, h'⟩ := h'
  have := (h (max N M) (Nat.le_max_left ..)).symm.trans (h' (max N M) (Nat.le_max_right ..))
  exact Option.some.inj this
theorem Evn.const {α : Type} {r : α} : Evn (fun _ => some r) r := ⟨0, fun _ _ => rfl⟩
theorem Evn.bnd {α β : Type} {g : Nat → Option α} {f : Nat → α → Option β} {a : α} {r : β} (h : Evn g a) (h' : Evn (fun n => f n a) r) : Evn (fun n => Vm.bnd (g n) (f n)) r := by
  obtain ⟨N, h⟩ := h
  obtain ⟨M, h'⟩ := h'
  exact ⟨max N M, fun n hn => by
    show Vm.bnd (g n) (f n) = some r
    rw [h n (by omega)]
    exact h' n (by omega)⟩
open Classical in
noncomputable def lim {α : Type} (g : Nat → Option α) : Option α := if h : ∃ r, Evn g r then some (Classical.choose h) else none
theorem lim_eq {α : Type} {g : Nat → Option α} {r : α} : lim g = some r ↔ Evn g r := by
  unfold lim
  constructor
  · intro h
    split at h
    · rename_i hx
      injection h with h
      rw [← h]
      exact Classical.choose_spec hx
    · cases h
  · intro h
    rw [dif_pos ⟨r, h⟩]
    exact congrArg some ((Classical.choose_spec (⟨r, h⟩ : ∃ r, Evn g r)).uniq h)

noncomputable def runL (E : Env) : Run := fun f args H next => lim fun n => runF E n f args H next
noncomputable def calL (E : Env) : CallC := fun f args hs => lim fun n => callC (runF E n) f args hs

noncomputable def X (E : Env) : MC → St → Option (Ex × St)
  | .skip, s => some (.normal, s)
  | .reg ops draw, s => opsM E (calL E) (runL E) draw ops s.T s.H s.next
  | .orig ops, s => opsD E (calL E) (runL E) ops (masks ops.toList) 0 [] ops.toList s.T (frz s.T (preS ops) s.H) s.next
  | .regD ops chk pre, s => bnd (opsM E (calL E) (runL E) true ops s.T (frz s.T pre s.H) s.next) fun r => match r.1 with
    | .normal => if chk.all (heldX r.2.T s.next) = true then some r else none
    | _ => none
  | .seq a b, s => bnd (X E a s) fun r => match r.1 with
    | .normal => X E b r.2
    | e => some (e, r.2)
  | .cond c a b, s => match valX s.T c with
    | .s (.bool t) => if t = true then X E a s else X E b s
    | _ => none
  | .block id c, s => bnd (X E c s) fun r => match r.1 with
    | .exit id' => some (if id' = id then .normal else .exit id', r.2)
    | e => some (e, r.2)
  | .loop c, s => lim fun n => loopN (X E c) n s
  | .exit id, s => some (.exit id, s)
  | .ret, s => some (.ret, s)

section
variable {E : Env}
abbrev cc (E : Env) (n : Nat) : CallC := callC (runF E n)

theorem doCall_ev {draw : Bool} {f : FuncId} {args : List PV} {H : Ob} {next : Nat} {r : Out × Ob × Nat} (h : doCall E (calL E) (runL E) draw f args H next = some r) : Evn (fun n => doCall E (cc E n) (runF E n) draw f args H next) r := by
  unfold doCall at h ⊢
  split at h
  · rename_i hf
    split at h
    · cases h
    · rename_i hd
      simp only [hf, if_true, hd]
      exact lim_eq.1 h
  · rename_i hf
    simp only [if_neg hf]
    obtain ⟨a, h1, h⟩ := bnd_eq_some.1 h
    refine Evn.bnd (a := a) ⟨0, fun _ _ => h1⟩ ?_
    simp only at h ⊢
    split at h
    · cases h
    · rename_i hd
      simp only [if_neg hd]
      split at h
      · rename_i hc
        simp only [if_pos hc]
        obtain ⟨q, h2, h⟩ := bnd_eq_some.1 h
        injection h with h
        subst h
        exact Evn.bnd (lim_eq.1 h2) Evn.const
      · cases h
theorem stepO_ev {ops : Array Oper} {draw : Bool} {o : Oper} {T : Nat → PV} {H : Ob} {next : Nat} {x : Step} (h : stepO E (calL E) (runL E) ops draw o T H next = some x) : Evn (fun n => stepO E (cc E n) (runF E n) ops draw o T H next) x := by
  by_cases hp : plainO o.op = true
  · rw [stepO_plain hp] at h
    refine ⟨0, fun n _ => ?_⟩
    show stepO E (cc E n) (runF E n) ops draw o T H next = some x
    rw [stepO_plain hp]
    exact h
  · obtain ⟨dst, op, ty, pos, af, g⟩ := o
    by_cases hw : wantedS ops T g = true
    · cases op with
      | buildSlice t n ps => exact ⟨0, fun _ _ => h⟩
      | panic y => exact ⟨0, fun _ _ => h⟩
      | call c =>
        obtain ⟨ce, args, ts⟩ := c
        cases ce with
        | value f =>
          unfold stepO at h ⊢
          simp only [if_pos hw] at h ⊢
          obtain ⟨a, h1, h⟩ := bnd_eq_some.1 h
          refine Evn.bnd (a := a) ⟨0, fun _ _ => h1⟩ ?_
          obtain ⟨b, h2, h⟩ := bnd_eq_some.1 h
          refine Evn.bnd (a := b) ⟨0, fun _ _ => h2⟩ ?_
          obtain ⟨c, h3, h⟩ := bnd_eq_some.1 h
          refine Evn.bnd (a := c) ⟨0, fun _ _ => h3⟩ ?_
          obtain ⟨r, h4, h⟩ := bnd_eq_some.1 h
          exact Evn.bnd (doCall_ev h4) ⟨0, fun _ _ => h⟩
        | _ => exact absurd rfl hp
      | _ => exact absurd rfl hp
    · refine ⟨0, fun n _ => ?_⟩
      show stepO E (cc E n) (runF E n) ops draw ⟨dst, op, ty, pos, af, g⟩ T H next = some x
      unfold stepO at h ⊢
      simp only at h ⊢
      rw [if_neg hw] at h ⊢
      exact h
theorem opsO_ev {ops : Array Oper} {draw : Bool} {e : Ex × St} : ∀ {os : List Oper} {T : Nat → PV} {H : Ob} {next : Nat}, opsO E (calL E) (runL E) ops draw os T H next = some e → Evn (fun n => opsO E (cc E n) (runF E n) ops draw os T H next) e
  | [], T, H, next, h => ⟨0, fun _ _ => h⟩
  | o :: os, T, H, next, h => by
    simp only [opsO] at h ⊢
    obtain ⟨x, h1, h2⟩ := bnd_eq_some.1 h
    refine Evn.bnd (stepO_ev h1) ?_
    cases x with
    | go T1 H1 n1 => exact opsO_ev h2
    | panic v T1 H1 n1 => exact ⟨0, fun _ _ => h2⟩
theorem opsD_ev {ops : Array Oper} {M : List Nat} {e : Ex × St} : ∀ {os : List Oper} {i : Nat} {tr : List (Nat × List Nat)} {T : Nat → PV} {H : Ob} {next : Nat}, opsD E (calL E) (runL E) ops M i tr os T H next = some e → Evn (fun n => opsD E (cc E n) (runF E n) ops M i tr os T H next) e
  | [], i, tr, T, H, next, h => ⟨0, fun _ _ => h⟩
  | o :: os, i, tr, T, H, next, h => by
    simp only [opsD] at h ⊢
    split at h
    · rename_i hc
      simp only [if_pos hc]
      obtain ⟨x, h1, h2⟩ := bnd_eq_some.1 h
      refine Evn.bnd (stepO_ev h1) ?_
      cases x with
      | go T1 H1 n1 => exact opsD_ev h2
      | panic v T1 H1 n1 => cases h2
    · cases h
theorem stepM_go {callc : CallC} {run : Run} {draw : Bool} {o : MOper} {T T1 : Nat → PV} {H H1 : Ob} {n n1 : Nat} (h : stepM E callc run draw o T H n = some (.go T1 H1 n1)) : (∃ v, T1 = putT T o.d v) ∧ (draw = true → n1 = n + 1) := by
  have after : ∀ {r : Out × Ob × Nat}, afterCall T o.d r = .go T1 H1 n1 → (∃ v, T1 = putT T o.d v) ∧ r.2.2 = n1 := by
    intro r e
    unfold afterCall at e
    split at e
    · injection e with e1 e2 e3
      exact ⟨⟨_, e1.symm⟩, e3⟩
    · cases e
  have docall : ∀ {f : FuncId} {args : List PV} {r : Out × Ob × Nat}, doCall E callc run draw f args H (n + 1) = some r → draw = true → r.2.2 = n + 1 := by
    intro f args r h hd
    subst hd
    unfold doCall at h
    split at h
    · simp at h
    · obtain ⟨a, h1, h⟩ := bnd_eq_some.1 h
      simp only at h
      split at h
      · cases h
      · split at h
        · obtain ⟨q, h2, h⟩ := bnd_eq_some.1 h
          injection h with h
          rw [← h]
        · cases h
  unfold stepM at h
  split at h
  · split at h
    · obtain ⟨r, h1, h⟩ := bnd_eq_some.1 h
      injection h with h
      obtain ⟨g1, g2⟩ := after h
      exact ⟨g1, fun hd => g2.symm.trans (docall h1 hd)⟩
    · obtain ⟨c, h0, h⟩ := bnd_eq_some.1 h
      obtain ⟨r, h1, h⟩ := bnd_eq_some.1 h
      injection h with h
      obtain ⟨g1, g2⟩ := after h
      exact ⟨g1, fun hd => g2.symm.trans (docall h1 hd)⟩
    · split at h
      · injection h with h; cases h
      · injection h with h; cases h
      · cases h
    · obtain ⟨r, h1, h⟩ := bnd_eq_some.1 h
      injection h with h
      injection h with e1 e2 e3
      exact ⟨⟨_, e1.symm⟩, fun _ => e3.symm⟩
  · injection h with h
    injection h with e1 e2 e3
    exact ⟨⟨_, e1.symm⟩, fun _ => e3.symm⟩
theorem opsM_dst {callc : CallC} {run : Run} {draw : Bool} {s : St} {x : Nat} : ∀ {os : List MOper} {T : Nat → PV} {H : Ob} {n : Nat}, opsM E callc run draw os T H n = some (.normal, s) → (∀ o ∈ os, o.d ≠ some x) → s.T x = T x
  | [], T, H, n, h, _ => by
    simp only [opsM] at h
    injection h with h
    injection h with _ h
    rw [← h]
  | o :: os, T, H, n, h, hx => by
    simp only [opsM] at h
    obtain ⟨y, h1, h2⟩ := bnd_eq_some.1 h
    cases y with
    | panic v T1 H1 n1 =>
      simp only at h2
      split at h2
      · cases h2
      · injection h2 with h2; cases h2
    | go T1 H1 n1 =>
      obtain ⟨⟨v, e⟩, _⟩ := stepM_go h1
      rw [opsM_dst h2 (fun o ho => hx o (List.mem_cons_of_mem _ ho)), e]
      have := hx o (List.mem_cons_self ..)
      cases hd : o.d with
      | none => rfl
      | some d =>
        simp only [putT, upd]
        rw [if_neg (fun e => this (by rw [hd, e]))]
theorem opsM_normal {callc : CallC} {run : Run} : ∀ {os : List MOper} {T : Nat → PV} {H : Ob} {n : Nat} {r : Ex × St}, opsM E callc run true os T H n = some r → r.1 = .normal
  | [], T, H, n, r, h => by
    simp only [opsM] at h
    injection h with h
    rw [← h]
  | o :: os, T, H, n, r, h => by
    simp only [opsM] at h
    obtain ⟨y, h1, h2⟩ := bnd_eq_some.1 h
    cases y with
    | panic v T1 H1 n1 => simp at h2
    | go T1 H1 n1 => exact opsM_normal h2
theorem cOps_dst {ops : Array Oper} : ∀ {os : List Oper} {l : List MOper}, cOps E ops os = some l → ∀ m ∈ l, ∃ o ∈ os, o.dst = m.d
  | [], l, h, m, hm => by
    simp only [cOps] at h
    injection h with h
    subst h
    cases hm
  | o :: os, l, h, m, hm => by
    simp only [cOps] at h
    obtain ⟨a, h1, h⟩ := bnd_eq_some.1 h
    obtain ⟨b, h2, h⟩ := bnd_eq_some.1 h
    obtain ⟨c, h3, h⟩ := bnd_eq_some.1 h
    injection h with h
    subst h
    rcases List.mem_cons.1 hm with e | hm
    · exact ⟨o, List.mem_cons_self .., by rw [e]⟩
    · obtain ⟨o', ho, e⟩ := cOps_dst h3 m hm
      exact ⟨o', List.mem_cons_of_mem _ ho, e⟩
theorem opsM_opsD {callc : CallC} {run : Run} {ops : Array Oper} {M : List Nat} {s : St} {n0 : Nat} (hall : ∀ k i ok oi, k < i → ops[k]? = some ok → ops[i]? = some oi → pairOk ops M k i (touchO E ok.op s.T (n0 + k)) (touchO E oi.op s.T (n0 + i)) = true) :
    ∀ (os : List Oper) (i : Nat) (tr : List (Nat × List Nat)) (l : List MOper) (T : Nat → PV) (H : Ob), ops.toList.drop i = os → cOps E ops os = some l → stab os = true → (∀ x ∈ tr, x.1 < i ∧ ∃ o, ops[x.1]? = some o ∧ x.2 = touchO E o.op s.T (n0 + x.1)) →
      opsM E callc run true l T H (n0 + i) = some (.normal, s) → opsD E callc run ops M i tr os T H (n0 + i) = some (.normal, s)
  | [], i, tr, l, T, H, hdrop, hc, hst, htr, h => by
    simp only [cOps] at hc
    injection hc with hc
    subst hc
    exact h
  | o :: os, i, tr, l, T, H, hdrop, hc, hst, htr, h => by
    have ho : ops[i]? = some o := by
      have : ops.toList[i]? = some o := by
        have h1 : (ops.toList.drop i)[0]? = some o := by rw [hdrop]; rfl
        simpa using h1
      simpa using this
    have hdrop' : ops.toList.drop (i + 1) = os := by
      rw [← List.drop_drop, hdrop]
      rfl
    have hcall := hc
    simp only [cOps] at hc
    obtain ⟨m, h1, hc⟩ := bnd_eq_some.1 hc
    obtain ⟨g, h2, hc⟩ := bnd_eq_some.1 hc
    obtain ⟨q, h3, hc⟩ := bnd_eq_some.1 hc
    injection hc with hc
    subst hc
    have htouch : touchO E o.op T (n0 + i) = touchO E o.op s.T (n0 + i) := by
      simp only [stab, Bool.and_eq_true, Bool.or_eq_true, beq_iff_eq] at hst
      rcases hst.1 with hk | hk
      · simp only [touchO, hk]
      · refine touchO_congr (fun x hx => ?_)
        cases x with
        | tmp t =>
          have ht : t ∈ o.op.operands.toList.filterMap slO := List.mem_filterMap.2 ⟨.tmp t, by simpa using hx, rfl⟩
          have hno := List.all_eq_true.1 hk t ht
          have := opsM_dst (x := t) h (fun m' hm' => by
            obtain ⟨o', ho', e⟩ := cOps_dst hcall m' hm'
            have := List.all_eq_true.1 hno o' ho'
            rw [← e]
            simpa using this)
          simp only [evalO, this]
        | _ => rfl
    simp only [opsM] at h
    obtain ⟨y, h4, h5⟩ := bnd_eq_some.1 h
    simp only [opsD]
    rw [if_pos (List.all_eq_true.2 (fun x hx => by
      obtain ⟨k1, ok, k2, k3⟩ := htr x hx
      rw [k3, htouch]
      exact hall _ _ _ _ k1 k2 ho)), stepM_ok h1 h2 h4, bnd_some]
    cases y with
    | panic v T1 H1 n1 => simp at h5
    | go T1 H1 n1 =>
      have hn := (stepM_go h4).2 rfl
      subst hn
      simp only at h5 ⊢
      simp only [stab, Bool.and_eq_true] at hst
      refine opsM_opsD hall os (i + 1) _ q T1 H1 hdrop' h3 hst.2 (fun x hx => ?_) h5
      rcases List.mem_cons.1 hx with e | hx
      · rw [e]; exact ⟨Nat.lt_succ_self i, o, ho, htouch⟩
      · obtain ⟨k1, k2⟩ := htr x hx
        exact ⟨Nat.lt_succ_of_lt k1, k2⟩
theorem flat_touch {T : Nat → PV} : ∀ {l : List Operand} {q : List MX}, cL E l = some q → l.flatMap (opndIds E T) = q.flatMap fun x => heads (valX T x)
  | [], q, h => by
    simp only [cL] at h
    injection h with h
    subst h
    rfl
  | x :: r, q, h => by
    simp only [cL] at h
    obtain ⟨a, h1, h⟩ := bnd_eq_some.1 h
    obtain ⟨b, h2, h⟩ := bnd_eq_some.1 h
    injection h with h
    subst h
    rw [List.flatMap_cons, List.flatMap_cons, flat_touch h2]
    simp only [opndIds, cX_ok h1]
theorem touch_ok {T : Nat → PV} {op : Op} {q : List MX} {nid : Nat} (h : cL E op.operands.toList = some q) : touchO E op T nid = touchX T nid (kindO op) q := by
  unfold touchO touchX
  rw [flat_touch h]
  split
  · rename_i e; simp only [e]
  · rename_i e; simp only [e]
  · rename_i e1 e2
    split
    · rename_i e; exact absurd e e1
    · rename_i e; exact absurd e e2
    · rfl
theorem cD_ok {ops : Array Oper} {T : Nat → PV} {n0 : Nat} : ∀ {ps : List (Nat × Nat)} {chk : List (Nat × Nat × List MX × Nat × Nat × List MX)}, cD E ops ps = some chk → chk.all (heldX T n0) = true → ∀ p ∈ ps, ∀ ok oi, ops[p.1]? = some ok → ops[p.2]? = some oi → disj (touchO E ok.op T (n0 + p.1)) (touchO E oi.op T (n0 + p.2)) = true
  | [], chk, h, hc, p, hp, ok, oi, h1, h2 => by cases hp
  | (k, i) :: r, chk, h, hc, p, hp, ok, oi, g1, g2 => by
    simp only [cD] at h
    obtain ⟨a, h1, h⟩ := bnd_eq_some.1 h
    obtain ⟨b, h2, h⟩ := bnd_eq_some.1 h
    obtain ⟨q, h3, h⟩ := bnd_eq_some.1 h
    injection h with h
    subst h
    simp only [List.all_cons, Bool.and_eq_true] at hc
    rcases List.mem_cons.1 hp with e | hp
    · subst e
      simp only at g1 g2 ⊢
      unfold cT at h1 h2
      rw [g1, bnd_some] at h1
      rw [g2, bnd_some] at h2
      obtain ⟨la, k1, h1⟩ := bnd_eq_some.1 h1
      obtain ⟨lb, k2, h2⟩ := bnd_eq_some.1 h2
      injection h1 with h1
      injection h2 with h2
      subst h1; subst h2
      rw [touch_ok k1, touch_ok k2]
      exact hc.1
    · exact cD_ok h3 hc.2 p hp ok oi g1 g2
theorem need_all {ops : Array Oper} {T : Nat → PV} {n0 : Nat} {chk : List (Nat × Nat × List MX × Nat × Nat × List MX)} (h : cD E ops (needD ops) = some chk) (hc : chk.all (heldX T n0) = true) :
    ∀ k i ok oi, k < i → ops[k]? = some ok → ops[i]? = some oi → pairOk ops (masks ops.toList) k i (touchO E ok.op T (n0 + k)) (touchO E oi.op T (n0 + i)) = true := by
  intro k i ok oi hki h1 h2
  unfold pairOk
  cases hs : (((masks ops.toList).getD i 0).testBit k || compat (opK ops k) (opK ops i)) with
  | true => simp only [Bool.true_or]
  | false =>
    have hi : i < ops.size := (Array.getElem?_eq_some_iff.1 h2).1
    have hm : (k, i) ∈ needD ops := by
      refine List.mem_filter.2 ⟨List.mem_flatMap.2 ⟨i, List.mem_range.2 hi, List.mem_map.2 ⟨k, List.mem_range.2 hki, rfl⟩⟩, ?_⟩
      simp only [hs, Bool.not_false]
    rw [cD_ok h hc (k, i) hm ok oi h1 h2, Bool.or_true]
theorem X_ev {dyn : Bool} : ∀ {c : Code} {m : MC} {s : St} {r : Ex × St}, comp E dyn c = some m → X E m s = some r → Evn (fun n => exec E dyn (cc E n) (runF E n) n c s) r
  | .skip, m, s, r, hc, h => by
    simp only [comp] at hc
    injection hc with hc
    subst hc
    exact ⟨0, fun _ _ => h⟩
  | .label l, m, s, r, hc, h => by
    simp only [comp] at hc
    injection hc with hc
    subst hc
    exact ⟨0, fun _ _ => h⟩
  | .exit i, m, s, r, hc, h => by
    simp only [comp] at hc
    injection hc with hc
    subst hc
    exact ⟨0, fun _ _ => h⟩
  | .ret, m, s, r, hc, h => by
    simp only [comp] at hc
    injection hc with hc
    subst hc
    exact ⟨0, fun _ _ => h⟩
  | .region id ops draw, m, s, r, hc, h => by
    simp only [comp] at hc
    simp only [exec]
    split at hc
    · rename_i hd
      have orig : MC.orig ops = m → Evn (fun n => if draw = true ∧ dyn = true then opsD E (cc E n) (runF E n) ops (masks ops.toList) 0 [] ops.toList s.T (frz s.T (preS ops) s.H) s.next else opsO E (cc E n) (runF E n) ops draw ops.toList s.T s.H s.next) r := by
        intro e
        subst e
        simp only [if_pos hd]
        exact opsD_ev h
      split at hc
      · rename_i l chk hl hchk
        split at hc
        · rename_i hst
          simp only [if_pos hd]
          have main : ∀ s1 : St, opsM E (calL E) (runL E) true l s.T (frz s.T (preS ops) s.H) s.next = some (.normal, s1) → chk.all (heldX s1.T s.next) = true → Evn (fun n => opsD E (cc E n) (runF E n) ops (masks ops.toList) 0 [] ops.toList s.T (frz s.T (preS ops) s.H) s.next) (.normal, s1) := by
            intro s1 h1 hck
            have := opsM_opsD (n0 := s.next) (need_all hchk hck) ops.toList 0 [] l s.T (frz s.T (preS ops) s.H) rfl hl hst (fun x hx => by cases hx) h1
            exact opsD_ev this
          split at hc
          · rename_i hemp
            injection hc with hc
            subst hc
            simp only [X] at h
            obtain ⟨e1, e2⟩ := hemp
            have e1 : chk = [] := by simpa using e1
            have e2 : preS ops = [] := by simpa using e2
            subst e1
            rw [e2] at main ⊢
            obtain ⟨e, s1⟩ := r
            have hnorm := opsM_normal h
            simp only at hnorm
            subst hnorm
            exact main s1 h rfl
          · injection hc with hc
            subst hc
            simp only [X] at h
            obtain ⟨⟨e, s1⟩, h1, h2⟩ := bnd_eq_some.1 h
            cases e with
            | normal =>
              simp only at h2
              split at h2
              · rename_i hck
                injection h2 with h2
                subst h2
                exact main s1 h1 hck
              · cases h2
            | _ => cases h2
        · injection hc with hc
          exact orig hc
      · injection hc with hc
        exact orig hc
    · rename_i hd
      obtain ⟨l, h1, hc⟩ := bnd_eq_some.1 hc
      injection hc with hc
      subst hc
      simp only [if_neg hd]
      exact opsO_ev (opsM_ok h1 h)
  | .seq a b, m, s, r, hc, h => by
    simp only [comp] at hc
    obtain ⟨ma, h1, hc⟩ := bnd_eq_some.1 hc
    obtain ⟨mb, h2, hc⟩ := bnd_eq_some.1 hc
    injection hc with hc
    subst hc
    simp only [X] at h
    simp only [exec]
    obtain ⟨⟨e, s1⟩, h3, h4⟩ := bnd_eq_some.1 h
    refine Evn.bnd (X_ev h1 h3) ?_
    cases e with
    | normal => exact X_ev h2 h4
    | _ => exact ⟨0, fun _ _ => h4⟩
  | .cond c a b, m, s, r, hc, h => by
    simp only [comp] at hc
    obtain ⟨mc, h0, hc⟩ := bnd_eq_some.1 hc
    obtain ⟨ma, h1, hc⟩ := bnd_eq_some.1 hc
    obtain ⟨mb, h2, hc⟩ := bnd_eq_some.1 hc
    injection hc with hc
    subst hc
    simp only [X] at h
    simp only [exec, cX_ok h0, bnd_some]
    split at h
    · rename_i t ht
      rw [ht]
      cases t with
      | true =>
        simp only [if_true] at h ⊢
        exact X_ev h1 h
      | false =>
        simp only [Bool.false_eq_true, if_false] at h ⊢
        exact X_ev h2 h
    · cases h
  | .block id c, m, s, r, hc, h => by
    simp only [comp] at hc
    obtain ⟨mc, h1, hc⟩ := bnd_eq_some.1 hc
    injection hc with hc
    subst hc
    simp only [X] at h
    simp only [exec]
    obtain ⟨⟨e, s1⟩, h3, h4⟩ := bnd_eq_some.1 h
    refine Evn.bnd (X_ev h1 h3) ?_
    exact ⟨0, fun _ _ => h4⟩
  | .loop c, m, s, r, hc, h => by
    simp only [comp] at hc
    obtain ⟨mc, h1, hc⟩ := bnd_eq_some.1 hc
    injection hc with hc
    subst hc
    simp only [X] at h
    simp only [exec]
    obtain ⟨K, hK⟩ := lim_eq.1 h
    have key : ∀ (k : Nat) (s : St), loopN (X E mc) k s = some r → ∃ N, ∀ n, N ≤ n → ∀ j, k ≤ j → loopN (exec E dyn (cc E n) (runF E n) n c) j s = some r := by
      intro k
      induction k with
      | zero => intro s hs; simp [loopN] at hs
      | succ k ih =>
        intro s hs
        simp only [loopN] at hs
        obtain ⟨⟨e, s1⟩, h3, h4⟩ := bnd_eq_some.1 hs
        obtain ⟨N, hN⟩ := X_ev h1 h3
        cases e with
        | normal =>
          obtain ⟨M, hM⟩ := ih s1 h4
          refine ⟨max N M, fun n hn j hj => ?_⟩
          obtain ⟨j, rfl⟩ : ∃ i, j = i + 1 := ⟨j - 1, by omega⟩
          have e1 : exec E dyn (cc E n) (runF E n) n c s = some (Ex.normal, s1) := hN n (by omega)
          simp only [loopN, e1, bnd_some]
          exact hM n (by omega) j (by omega)
        | exit i =>
          refine ⟨N, fun n hn j hj => ?_⟩
          obtain ⟨j, rfl⟩ : ∃ i, j = i + 1 := ⟨j - 1, by omega⟩
          have e1 : exec E dyn (cc E n) (runF E n) n c s = some (Ex.exit i, s1) := hN n (by omega)
          simp only [loopN, e1, bnd_some]
          exact h4
        | ret =>
          refine ⟨N, fun n hn j hj => ?_⟩
          obtain ⟨j, rfl⟩ : ∃ i, j = i + 1 := ⟨j - 1, by omega⟩
          have e1 : exec E dyn (cc E n) (runF E n) n c s = some (Ex.ret, s1) := hN n (by omega)
          simp only [loopN, e1, bnd_some]
          exact h4
        | panic v =>
          refine ⟨N, fun n hn j hj => ?_⟩
          obtain ⟨j, rfl⟩ : ∃ i, j = i + 1 := ⟨j - 1, by omega⟩
          have e1 : exec E dyn (cc E n) (runF E n) n c s = some (Ex.panic v, s1) := hN n (by omega)
          simp only [loopN, e1, bnd_some]
          exact h4
    obtain ⟨N, hN⟩ := key K s (hK K (Nat.le_refl _))
    exact ⟨max N K, fun n hn => hN n (by omega) n (by omega)⟩
  | .rangeFunc .., m, s, r, hc, h => by simp [comp] at hc
  | .scope .., m, s, r, hc, h => by simp [comp] at hc
  | .goto .., m, s, r, hc, h => by simp [comp] at hc

/-! ### functions -/
inductive MR where
  | t (i : Nat)
  | cell (agg : Bool) (size : Nat) (i : Nat)
structure MF where
  nt : Nat
  rs : List MR
  c : MC
def cR (P : Program) : List ResultVar → Option (List MR)
  | [] => some []
  | .tmp t :: r => bnd (cR P r) fun q => some (.t t :: q)
  | .cell a t :: r => bnd (ti P t) fun y => bnd (cR P r) fun q => some (.cell y.agg y.size a :: q)
def cF (E : Env) (f : FuncId) : Option MF :=
  if (E.ext f).isNone = true ∧ E.use f = true then bnd (E.P.funcs[f]?) fun fn => bnd fn.body fun c => bnd (cR E.P fn.results.toList) fun rs => bnd (comp E (E.dyn f) c) fun m => some ⟨fn.ntmps, rs, m⟩ else none
def resM (T : Nat → PV) (H : Ob) : List MR → Option (List PV)
  | [] => some []
  | .t i :: r => bnd (resM T H r) fun q => some (T i :: q)
  | .cell agg size i :: r => bnd (loadM agg size H (T i)) fun v => bnd (resM T H r) fun q => some (v :: q)
def finM (rs : List MR) (r : Ex × St) : Option (Out × Ob × Nat) :=
  match r.1 with
  | .normal => bnd (resM r.2.T r.2.H rs) fun vs => some (.ret (packR vs), r.2.H, r.2.next)
  | .ret => bnd (resM r.2.T r.2.H rs) fun vs => some (.ret (packR vs), r.2.H, r.2.next)
  | .panic v => some (.panic v, r.2.H, r.2.next)
  | .exit _ => none
theorem resM_ok {P : Program} {T : Nat → PV} {H : Ob} : ∀ {l : List ResultVar} {rs : List MR} {q : List PV}, cR P l = some rs → resM T H rs = some q → resultsS P T H l = some q
  | [], rs, q, hc, h => by
    simp only [cR] at hc
    injection hc with hc
    subst hc
    exact h
  | .tmp t :: r, rs, q, hc, h => by
    simp only [cR] at hc
    obtain ⟨a, h1, hc⟩ := bnd_eq_some.1 hc
    injection hc with hc
    subst hc
    simp only [resM] at h
    obtain ⟨b, h2, h⟩ := bnd_eq_some.1 h
    injection h with h
    subst h
    simp only [resultsS, resM_ok h1 h2, bnd_some]
  | .cell b t :: r, rs, q, hc, h => by
    simp only [cR] at hc
    obtain ⟨y, h0, hc⟩ := bnd_eq_some.1 hc
    obtain ⟨a, h1, hc⟩ := bnd_eq_some.1 hc
    injection hc with hc
    subst hc
    simp only [resM] at h
    obtain ⟨v, h3, h⟩ := bnd_eq_some.1 h
    obtain ⟨b, h2, h⟩ := bnd_eq_some.1 h
    injection h with h
    subst h
    simp only [resultsS, loadM_ok h0 h3, resM_ok h1 h2, bnd_some]
theorem finM_ok {P : Program} {fn : Func} {rs : List MR} {x : Ex × St} {r : Out × Ob × Nat} (hc : cR P fn.results.toList = some rs) (h : finM rs x = some r) : finishO P fn x = some r := by
  unfold finM at h
  unfold finishO
  obtain ⟨e, s⟩ := x
  cases e with
  | normal =>
    simp only at h ⊢
    obtain ⟨vs, h1, h2⟩ := bnd_eq_some.1 h
    rw [resM_ok hc h1]
    exact h2
  | ret =>
    simp only at h ⊢
    obtain ⟨vs, h1, h2⟩ := bnd_eq_some.1 h
    rw [resM_ok hc h1]
    exact h2
  | panic v => exact h
  | exit i => cases h

theorem run_of {f : FuncId} {m : MF} {args : List PV} {H : Ob} {next : Nat} {x : Ex × St} {r : Out × Ob × Nat} (hf : cF E f = some m) (hl : args.length ≤ m.nt) (hx : X E m.c ⟨enter args, H, next⟩ = some x) (hr : finM m.rs x = some r) :
    Evn (fun n => runF E n f args H next) r := by
  unfold cF at hf
  split at hf
  · rename_i hc
    obtain ⟨fn, h1, hf⟩ := bnd_eq_some.1 hf
    obtain ⟨c, h2, hf⟩ := bnd_eq_some.1 hf
    obtain ⟨rs, h3, hf⟩ := bnd_eq_some.1 hf
    obtain ⟨mc, h4, hf⟩ := bnd_eq_some.1 hf
    injection hf with hf
    subst hf
    simp only at hl hx hr
    obtain ⟨N, hN⟩ := X_ev h4 hx
    refine ⟨N + 1, fun n hn => ?_⟩
    obtain ⟨n, rfl⟩ : ∃ i, n = i + 1 := ⟨n - 1, by omega⟩
    have he : E.ext f = none := by simpa using hc.1
    have e1 : exec E (E.dyn f) (callC (runF E n)) (runF E n) n c ⟨enter args, H, next⟩ = some x := hN n (by omega)
    simp only [runF, he, h1, h2]
    rw [if_pos ⟨hl, hc.2⟩, e1, bnd_some]
    exact finM_ok h3 hr
  · cases hf
theorem runL_of {f : FuncId} {m : MF} {args : List PV} {H : Ob} {next : Nat} {x : Ex × St} {r : Out × Ob × Nat} (hf : cF E f = some m) (hl : args.length ≤ m.nt) (hx : X E m.c ⟨enter args, H, next⟩ = some x) (hr : finM m.rs x = some r) :
    runL E f args H next = some r := lim_eq.2 (run_of hf hl hx hr)
theorem calL_of {f : FuncId} {m : MF} {args : List PV} {hs : List HObj} {x : Ex × St} {r : Out × Ob × Nat} {o : Out} {l : List HObj} (hf : cF E f = some m) (hl : args.length ≤ m.nt) (hx : X E m.c ⟨enter args, Ob.of hs, hs.length⟩ = some x) (hr : finM m.rs x = some r)
    (ho : ownOut hs.length r.2.1 r.1 = some o) (hb : ownObjs hs.length r.2.1 (firstO r.2.1 hs.length) = some l) : calL E f args hs = some (o, l) := by
  refine lim_eq.2 ?_
  unfold callC
  refine Evn.bnd (run_of hf hl hx hr) (Evn.bnd (a := o) ⟨0, fun _ _ => ho⟩ (Evn.bnd (a := l) ⟨0, fun _ _ => hb⟩ ⟨0, fun _ _ => rfl⟩))
theorem calL_run {f : FuncId} {args : List PV} {hs : List HObj} {r : Out × List HObj} (h : calL E f args hs = some r) : ∃ n, callC (runF E n) f args hs = some r := by
  obtain ⟨N, hN⟩ := lim_eq.1 h
  exact ⟨N, hN N (Nat.le_refl _)⟩
theorem ext_cal {f : FuncId} {g : List PV → Option PV} {args : List PV} {v w : PV} (h : E.ext f = some g) (hg : g args = some v) (ho : own 0 (Ob.of []) v = some w) : calL E f args [] = some (.ret w, []) := by
  refine lim_eq.2 ⟨1, fun n hn => ?_⟩
  obtain ⟨n, rfl⟩ : ∃ i, n = i + 1 := ⟨n - 1, by omega⟩
  simp only [callC, runF, h, hg, bnd_some, ownOut, List.length_nil, ho, firstO, ownObjs]

/-! ### loops -/
theorem loopN_mono {body : St → Option (Ex × St)} {r : Ex × St} : ∀ {n : Nat} {s : St}, loopN body n s = some r → ∀ m, n ≤ m → loopN body m s = some r
  | 0, s, h, m, hm => by simp [loopN] at h
  | n + 1, s, h, m, hm => by
    obtain ⟨m, rfl⟩ : ∃ i, m = i + 1 := ⟨m - 1, by omega⟩
    simp only [loopN] at h ⊢
    obtain ⟨⟨e, s1⟩, h1, h2⟩ := bnd_eq_some.1 h
    rw [h1, bnd_some]
    cases e with
    | normal => exact loopN_mono h2 m (by omega)
    | _ => exact h2
theorem X_loop_next {c : MC} {s s1 : St} {r : Ex × St} (h : X E c s = some (.normal, s1)) (h' : X E (.loop c) s1 = some r) : X E (.loop c) s = some r := by
  simp only [X] at h' ⊢
  obtain ⟨N, hN⟩ := lim_eq.1 h'
  refine lim_eq.2 ⟨N + 1, fun n hn => ?_⟩
  obtain ⟨n, rfl⟩ : ∃ i, n = i + 1 := ⟨n - 1, by omega⟩
  simp only [loopN, h, bnd_some]
  exact hN n (by omega)
theorem X_loop_end {c : MC} {s : St} {r : Ex × St} (h : X E c s = some r) (hn : r.1 ≠ .normal) : X E (.loop c) s = some r := by
  simp only [X]
  refine lim_eq.2 ⟨1, fun n hn' => ?_⟩
  obtain ⟨n, rfl⟩ : ∃ i, n = i + 1 := ⟨n - 1, by omega⟩
  simp only [loopN, h, bnd_some]
/-- A loop, by what holds at its head with at most k rounds to go. -/
theorem X_loop {c : MC} (I : Nat → St → Prop) (R : Ex × St → Prop) (h : ∀ k s, I k s → ∃ r, X E c s = some r ∧ ((r.1 = .normal ∧ ∃ k', k' < k ∧ I k' r.2) ∨ (r.1 ≠ .normal ∧ R r))) {k : Nat} {s : St} (h0 : I k s) : ∃ r, X E (.loop c) s = some r ∧ R r := by
  induction k using Nat.strongRecOn generalizing s with
  | _ k ih =>
    obtain ⟨⟨e, s1⟩, h1, h2⟩ := h k s h0
    rcases h2 with ⟨e1, k', hk, hI⟩ | ⟨e1, hR⟩
    · simp only at e1 hI
      subst e1
      obtain ⟨r, g1, g2⟩ := ih k' hk hI
      exact ⟨r, X_loop_next h1 g1, g2⟩
    · exact ⟨_, X_loop_end h1 e1, hR⟩
end
end Go.Vm
