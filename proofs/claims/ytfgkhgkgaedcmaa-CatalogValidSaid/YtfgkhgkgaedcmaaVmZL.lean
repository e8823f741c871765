/- A run that ends ends alike with more steps; so a run by the kernel is a run. -/
import Derived.Test.YtfgkhgkgaedcmaaVmZJ
set_option linter.unusedVariables false
set_option linter.unusedSimpArgs false
namespace Go.Vm

section
variable {E : Env}
def Le {α : Type} (a b : Option α) : Prop := ∀ r, a = some r → b = some r
theorem Le.refl {α : Type} (a : Option α) : Le a a := fun _ h => h
theorem Le.bnd {α β : Type} {a a' : Option α} {f f' : α → Option β} (h : Le a a') (hf : ∀ x, Le (f x) (f' x)) : Le (Vm.bnd a f) (Vm.bnd a' f') := by
  intro r hr
  obtain ⟨x, h1, h2⟩ := bnd_eq_some.1 hr
  rw [h x h1, bnd_some]
  exact hf x r h2
def LeC (c c' : CallC) : Prop := ∀ f a h, Le (c f a h) (c' f a h)
def LeR (r r' : Run) : Prop := ∀ f a H n, Le (r f a H n) (r' f a H n)
theorem LeC.of {r r' : Run} (h : LeR r r') : LeC (callC r) (callC r') := fun f a hs => Le.bnd (h _ _ _ _) (fun _ => Le.refl _)
theorem doCall_le {c c' : CallC} {r r' : Run} (hc : LeC c c') (hr : LeR r r') {dr : Bool} {f : FuncId} {args : List PV} {H : Ob} {n : Nat} : Le (doCall E c r dr f args H n) (doCall E c' r' dr f args H n) := by
  unfold doCall
  split
  · split
    · exact Le.refl _
    · exact hr _ _ _ _
  · refine Le.bnd (Le.refl _) (fun a => ?_)
    simp only
    split
    · exact Le.refl _
    · split
      · exact Le.bnd (hc _ _ _) (fun _ => Le.refl _)
      · exact Le.refl _
theorem stepO_le {c c' : CallC} {r r' : Run} (hc : LeC c c') (hr : LeR r r') {ops : Array Oper} {dr : Bool} {o : Oper} {T : Nat → PV} {H : Ob} {n : Nat} : Le (stepO E c r ops dr o T H n) (stepO E c' r' ops dr o T H n) := by
  by_cases hp : plainO o.op = true
  · rw [stepO_plain hp, stepO_plain hp]
    exact Le.refl _
  · obtain ⟨dst, op, ty, pos, af, g⟩ := o
    unfold stepO
    split
    · cases op with
      | buildSlice t n ps => exact Le.refl _
      | panic y => exact Le.refl _
      | call x =>
        obtain ⟨ce, args, ts⟩ := x
        cases ce with
        | value f => exact Le.bnd (Le.refl _) fun _ => Le.bnd (Le.refl _) fun _ => Le.bnd (Le.refl _) fun _ => Le.bnd (doCall_le hc hr) fun _ => Le.refl _
        | _ => exact absurd rfl hp
      | _ => exact absurd rfl hp
    · exact Le.refl _
theorem opsO_le {c c' : CallC} {r r' : Run} (hc : LeC c c') (hr : LeR r r') {ops : Array Oper} {dr : Bool} : ∀ {os : List Oper} {T : Nat → PV} {H : Ob} {n : Nat}, Le (opsO E c r ops dr os T H n) (opsO E c' r' ops dr os T H n)
  | [], T, H, n => Le.refl _
  | o :: os, T, H, n => by
    simp only [opsO]
    refine Le.bnd (stepO_le hc hr) (fun x => ?_)
    cases x with
    | go T1 H1 n1 => exact opsO_le hc hr
    | panic v T1 H1 n1 => exact Le.refl _
theorem opsD_le {c c' : CallC} {r r' : Run} (hc : LeC c c') (hr : LeR r r') {ops : Array Oper} {M : List Nat} : ∀ {os : List Oper} {i : Nat} {tr : List (Nat × List Nat)} {T : Nat → PV} {H : Ob} {n : Nat}, Le (opsD E c r ops M i tr os T H n) (opsD E c' r' ops M i tr os T H n)
  | [], i, tr, T, H, n => Le.refl _
  | o :: os, i, tr, T, H, n => by
    simp only [opsD]
    split
    · refine Le.bnd (stepO_le hc hr) (fun x => ?_)
      cases x with
      | go T1 H1 n1 => exact opsD_le hc hr
      | panic v T1 H1 n1 => exact Le.refl _
    · exact Le.refl _
theorem loopN_le {b b' : St → Option (Ex × St)} (h : ∀ s, Le (b s) (b' s)) : ∀ {n : Nat} {s : St}, Le (loopN b n s) (loopN b' n s)
  | 0, s => Le.refl _
  | n + 1, s => by
    simp only [loopN]
    refine Le.bnd (h s) (fun x => ?_)
    obtain ⟨e, s1⟩ := x
    cases e with
    | normal => exact loopN_le h
    | _ => exact Le.refl _
theorem exec_le {dyn : Bool} {c c' : CallC} {r r' : Run} (hc : LeC c c') (hr : LeR r r') {n m : Nat} (hn : n ≤ m) : ∀ {code : Code} {s : St}, Le (exec E dyn c r n code s) (exec E dyn c' r' m code s)
  | .skip, s => Le.refl _
  | .label l, s => Le.refl _
  | .exit i, s => Le.refl _
  | .ret, s => Le.refl _
  | .region id ops draw, s => by
    simp only [exec]
    split
    · exact opsD_le hc hr
    · exact opsO_le hc hr
  | .seq a b, s => by
    simp only [exec]
    refine Le.bnd (exec_le hc hr hn) (fun x => ?_)
    obtain ⟨e, s1⟩ := x
    cases e with
    | normal => exact exec_le hc hr hn
    | _ => exact Le.refl _
  | .cond x a b, s => by
    simp only [exec]
    refine Le.bnd (Le.refl _) (fun v => ?_)
    split
    · split
      · exact exec_le hc hr hn
      · exact exec_le hc hr hn
    · exact Le.refl _
  | .block id c, s => by
    simp only [exec]
    exact Le.bnd (exec_le hc hr hn) (fun _ => Le.refl _)
  | .loop c, s => by
    simp only [exec]
    intro x hx
    exact loopN_mono (loopN_le (fun s => exec_le hc hr hn) x hx) m hn
  | .rangeFunc .., s => fun _ h => by simp [exec] at h
  | .scope .., s => fun _ h => by simp [exec] at h
  | .goto .., s => fun _ h => by simp [exec] at h
  | .refuse .., s => fun _ h => by simp [exec] at h
theorem runF_le : ∀ (n m : Nat), n ≤ m → LeR (runF E n) (runF E m)
  | 0, m, _ => fun f a H k r h => by simp [runF] at h
  | n + 1, m, hm => by
    obtain ⟨m, rfl⟩ : ∃ i, m = i + 1 := ⟨m - 1, by omega⟩
    have hr := runF_le n m (by omega)
    intro f a H k
    simp only [runF]
    split
    · exact Le.refl _
    · split
      · split
        · split
          · exact Le.bnd (exec_le (LeC.of hr) hr (by omega)) (fun _ => Le.refl _)
          · exact Le.refl _
        · exact Le.refl _
      · exact Le.refl _
/-- A run by the kernel. -/
theorem cal_run {n : Nat} {f : FuncId} {args : List PV} {hs : List HObj} {r : Out × List HObj} (h : callC (runF E n) f args hs = some r) : calL E f args hs = some r :=
  lim_eq.2 ⟨n, fun m hm => LeC.of (runF_le n m hm) f args hs r h⟩
theorem run_run {n : Nat} {f : FuncId} {args : List PV} {H : Ob} {k : Nat} {r : Out × Ob × Nat} (h : runF E n f args H k = some r) : runL E f args H k = some r :=
  lim_eq.2 ⟨n, fun m hm => runF_le n m hm f args H k r h⟩
end
end Go.Vm
