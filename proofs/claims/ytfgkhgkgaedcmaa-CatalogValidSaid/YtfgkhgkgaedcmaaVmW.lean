/- Code without types, joined: one operation, a region. -/
import Derived.Test.YtfgkhgkgaedcmaaVmV
set_option linter.unusedVariables false
set_option linter.unusedSimpArgs false
namespace Go.Vm
open Go.RowKit

section
variable {E : Env}

def plainO : Op → Bool
  | .buildSlice _ _ _ => false
  | .panic _ => false
  | .call { callee := .value _, args := _, argTypes := _ } => false
  | _ => true
def plainM : MOp → Bool
  | .call _ _ => false
  | .callv _ _ => false
  | .panic _ => false
  | .mv _ => true
  | .pick _ _ _ => true
  | .alloc _ _ => true
  | .box _ _ => true
  | .build _ _ => true
  | .rows _ _ _ _ => true
  | .load _ _ _ => true
  | .store _ _ _ => true
  | .chk _ => true
  | .bin _ _ _ _ => true
  | .un _ _ => true
  | .conv _ _ => true
  | .ifc _ _ => true
  | .mkf _ _ _ => true
  | .mkm => true
  | .mks _ _ _ _ _ => true
  | .sl _ _ _ _ => true
  | .fa _ _ => true
  | .fv _ _ _ _ => true
  | .ia _ _ _ => true
  | .iv _ _ _ => true
  | .look _ _ _ _ _ => true
  | .mupd _ _ _ _ => true
  | .ta _ _ _ => true
  | .ext _ _ => true
  | .len _ _ => true
  | .app _ _ _ _ => true
  | .mx _ _ _ => true
theorem stepO_plain {callc : CallC} {run : Run} {ops : Array Oper} {draw : Bool} {o : Oper} {T : Nat → PV} {H : Ob} {next : Nat} (h : plainO o.op = true) :
    stepO E callc run ops draw o T H next = if wantedS ops T o.guard then bnd (opStep E o.op T H next) fun r => some (.go (putT T o.dst r.1) r.2 (next + 1)) else some (.go (putT T o.dst .undef) H (next + 1)) := by
  obtain ⟨dst, op, type, pos, after, guard⟩ := o
  cases op with
  | buildSlice t n ps => cases h
  | panic x => cases h
  | call c =>
    obtain ⟨ce, args, ts⟩ := c
    cases ce with
    | value f => cases h
    | _ => rfl
  | _ => rfl
theorem stepM_plain {callc : CallC} {run : Run} {draw : Bool} {o : MOper} {T : Nat → PV} {H : Ob} {next : Nat} (h : plainM o.op = true) :
    stepM E callc run draw o T H next = if wantedM T o.g then bnd (mstep o.op draw T H next) fun r => some (.go (putT T o.d r.1) r.2 (next + 1)) else some (.go (putT T o.d .undef) H (next + 1)) := by
  obtain ⟨d, g, op⟩ := o
  cases op <;> first | rfl | cases h

theorem mstep_ok {op : Op} {m : MOp} {draw : Bool} {T : Nat → PV} {H : Ob} {nid : Nat} {r : PV × Ob} (hc : cOp E op = some m) (hp : plainO op = true) (h : mstep m draw T H nid = some r) : opStep E op T H nid = some r ∧ plainM m = true := by
  cases op with
  | buildSlice t n ps => cases hp
  | panic x => cases hp
  | move x =>
    simp only [cOp] at hc
    obtain ⟨a, h1, hc⟩ := bnd_eq_some.1 hc
    injection hc with hc
    subst hc
    refine ⟨?_, rfl⟩
    simp only [opStep, cX_ok h1, pureR, bnd_some]
    exact h
  | assign x =>
    simp only [cOp] at hc
    obtain ⟨a, h1, hc⟩ := bnd_eq_some.1 hc
    injection hc with hc
    subst hc
    refine ⟨?_, rfl⟩
    simp only [opStep, cX_ok h1, pureR, bnd_some]
    exact h
  | pick c a b =>
    simp only [cOp] at hc
    obtain ⟨c, h1, hc⟩ := bnd_eq_some.1 hc
    obtain ⟨a, h2, hc⟩ := bnd_eq_some.1 hc
    obtain ⟨b, h3, hc⟩ := bnd_eq_some.1 hc
    injection hc with hc
    subst hc
    refine ⟨?_, rfl⟩
    simp only [opStep, cX_ok h1, cX_ok h2, cX_ok h3, bnd_some]
    exact h
  | alloc t =>
    simp only [cOp] at hc
    obtain ⟨y, h1, hc⟩ := bnd_eq_some.1 hc
    injection hc with hc
    subst hc
    refine ⟨?_, rfl⟩
    simp only [opStep, allocO, h1]
    exact h
  | box t x =>
    simp only [cOp] at hc
    obtain ⟨a, h1, hc⟩ := bnd_eq_some.1 hc
    injection hc with hc
    subst hc
    refine ⟨?_, rfl⟩
    simp only [opStep, cX_ok h1, bnd_some]
    exact h
  | build t ps =>
    simp only [cOp] at hc
    obtain ⟨y, h1, hc⟩ := bnd_eq_some.1 hc
    split at hc
    · rename_i hs
      obtain ⟨q, h2, hc⟩ := bnd_eq_some.1 hc
      injection hc with hc
      subst hc
      refine ⟨?_, rfl⟩
      obtain ⟨qs, g1, g2⟩ := cB_ok (T := T) h2
      simp only [mstep] at h
      obtain ⟨c, h3, h⟩ := bnd_eq_some.1 h
      injection h with h
      subst h
      simp only [opStep, g1, bnd_some, buildV, h1, hs, g2 _ _ h3, pureR]
    · cases hc
  | load t a =>
    simp only [cOp] at hc
    obtain ⟨y, h1, hc⟩ := bnd_eq_some.1 hc
    obtain ⟨a, h2, hc⟩ := bnd_eq_some.1 hc
    injection hc with hc
    subst hc
    refine ⟨?_, rfl⟩
    simp only [opStep, cX_ok h2, bnd_some]
    exact pureR_of h (fun v hv => loadM_ok h1 hv)
  | store t a x =>
    simp only [cOp] at hc
    obtain ⟨y, h1, hc⟩ := bnd_eq_some.1 hc
    obtain ⟨a, h2, hc⟩ := bnd_eq_some.1 hc
    obtain ⟨x, h3, hc⟩ := bnd_eq_some.1 hc
    injection hc with hc
    subst hc
    refine ⟨?_, rfl⟩
    simp only [opStep, cX_ok h2, cX_ok h3, bnd_some]
    exact unitR_of h (fun v hv => storeM_ok h1 hv)
  | nilCheck x =>
    simp only [cOp] at hc
    obtain ⟨a, h1, hc⟩ := bnd_eq_some.1 hc
    injection hc with hc
    subst hc
    refine ⟨?_, rfl⟩
    simp only [opStep, cX_ok h1, bnd_some]
    exact h
  | binOp op t x y u =>
    simp only [cOp] at hc
    obtain ⟨a, h1, hc⟩ := bnd_eq_some.1 hc
    obtain ⟨b, h2, hc⟩ := bnd_eq_some.1 hc
    injection hc with hc
    subst hc
    refine ⟨?_, rfl⟩
    simp only [opStep, cX_ok h1, cX_ok h2, bnd_some]
    exact pureR_of h (fun v hv => binM_ok hv)
  | unOp op t x =>
    simp only [cOp] at hc
    obtain ⟨a, h1, hc⟩ := bnd_eq_some.1 hc
    injection hc with hc
    subst hc
    refine ⟨?_, rfl⟩
    simp only [opStep, cX_ok h1, bnd_some]
    exact h
  | convert s d x =>
    simp only [cOp] at hc
    obtain ⟨a, h1, hc⟩ := bnd_eq_some.1 hc
    split at hc
    · rename_i hs
      simp only [opStep, cX_ok h1, bnd_some, if_pos hs]
      obtain ⟨p, H'⟩ := r
      split at hc
      · rename_i k hk
        injection hc with hc
        subst hc
        exact ⟨convM_int hk h, rfl⟩
      · split at hc
        · rename_i hd
          injection hc with hc
          subst hc
          refine ⟨convM_str hd (fun hb => ?_) h, rfl⟩
          split at hb
          · rename_i e he
            exact ⟨e, he, by simpa using hb⟩
          · cases hb
        · rename_i hd
          split at hc
          · rename_i e he
            split at hc
            · rename_i hu
              injection hc with hc
              subst hc
              exact ⟨convM_bytes hd he hu h, rfl⟩
            · cases hc
          · cases hc
    · cases hc
  | makeInterface t x =>
    simp only [cOp] at hc
    split at hc
    · cases hc
    · rename_i hi
      obtain ⟨a, h1, hc⟩ := bnd_eq_some.1 hc
      injection hc with hc
      subst hc
      refine ⟨?_, rfl⟩
      simp only [opStep, cX_ok h1, bnd_some, ifaceM_ok hi, pureR]
      exact h
  | makeFunc fn a b =>
    cases fn with
    | func f =>
      simp only [cOp] at hc
      obtain ⟨a, h1, hc⟩ := bnd_eq_some.1 hc
      obtain ⟨b, h2, hc⟩ := bnd_eq_some.1 hc
      injection hc with hc
      subst hc
      refine ⟨?_, rfl⟩
      simp only [opStep, cL_ok h1, cL_ok h2, bnd_some]
      exact h
    | _ => simp [cOp] at hc
  | makeMap t r =>
    cases r with
    | none =>
      simp only [cOp] at hc
      injection hc with hc
      subst hc
      exact ⟨h, rfl⟩
    | some r => simp [cOp] at hc
  | makeSlice t l c =>
    simp only [cOp] at hc
    obtain ⟨e, h1, hc⟩ := bnd_eq_some.1 hc
    obtain ⟨y, h2, hc⟩ := bnd_eq_some.1 hc
    split at hc
    · rename_i hy
      obtain ⟨l, h3, hc⟩ := bnd_eq_some.1 hc
      obtain ⟨c, h4, hc⟩ := bnd_eq_some.1 hc
      injection hc with hc
      subst hc
      refine ⟨?_, rfl⟩
      obtain ⟨p, H'⟩ := r
      simp only [opStep, cX_ok h3, cX_ok h4, bnd_some]
      exact mksM_ok h1 h2 hy h
    · cases hc
  | slice t x l hh m =>
    cases m with
    | none =>
      simp only [cOp] at hc
      obtain ⟨x, h1, hc⟩ := bnd_eq_some.1 hc
      obtain ⟨l, h2, hc⟩ := bnd_eq_some.1 hc
      obtain ⟨hh, h3, hc⟩ := bnd_eq_some.1 hc
      simp only [opStep, cX_ok h1, cM_ok h2, cM_ok h3, bnd_some]
      split at hc
      · rename_i hs
        injection hc with hc
        subst hc
        exact ⟨pureR_of h (fun v hv => sliceM_str hs hv), rfl⟩
      · obtain ⟨e, h4, hc⟩ := bnd_eq_some.1 hc
        obtain ⟨y, h5, hc⟩ := bnd_eq_some.1 hc
        injection hc with hc
        subst hc
        exact ⟨pureR_of h (fun v hv => sliceM_sl h4 h5 hv), rfl⟩
    | some m => simp [cOp] at hc
  | fieldAddr s x f =>
    simp only [cOp] at hc
    obtain ⟨x, h1, hc⟩ := bnd_eq_some.1 hc
    obtain ⟨o, h2, hc⟩ := bnd_eq_some.1 hc
    injection hc with hc
    subst hc
    refine ⟨?_, rfl⟩
    simp only [opStep, cX_ok h1, bnd_some]
    exact pureR_of h (fun v hv => fieldAM_ok (t := o.2) h2 hv)
  | field s x f =>
    simp only [cOp] at hc
    obtain ⟨x, h1, hc⟩ := bnd_eq_some.1 hc
    obtain ⟨o, h2, hc⟩ := bnd_eq_some.1 hc
    obtain ⟨y, h3, hc⟩ := bnd_eq_some.1 hc
    injection hc with hc
    subst hc
    refine ⟨?_, rfl⟩
    simp only [opStep, cX_ok h1, bnd_some]
    exact pureR_of h (fun v hv => fieldVM_ok (t := o.2) h2 h3 hv)
  | indexAddr t x i =>
    simp only [cOp] at hc
    obtain ⟨x, h1, hc⟩ := bnd_eq_some.1 hc
    obtain ⟨i, h2, hc⟩ := bnd_eq_some.1 hc
    simp only [opStep, cX_ok h1, cX_ok h2, bnd_some]
    split at hc
    · rename_i e he
      obtain ⟨y, h3, hc⟩ := bnd_eq_some.1 hc
      injection hc with hc
      subst hc
      exact ⟨pureR_of h (fun v hv => indexAM_sl he h3 hv), rfl⟩
    · obtain ⟨a, h3, hc⟩ := bnd_eq_some.1 hc
      obtain ⟨y, h4, hc⟩ := bnd_eq_some.1 hc
      injection hc with hc
      subst hc
      exact ⟨pureR_of h (fun v hv => indexAM_arr (e := a.2) h3 h4 hv), rfl⟩
  | index t x i =>
    simp only [cOp] at hc
    obtain ⟨x, h1, hc⟩ := bnd_eq_some.1 hc
    obtain ⟨i, h2, hc⟩ := bnd_eq_some.1 hc
    simp only [opStep, cX_ok h1, cX_ok h2, bnd_some]
    split at hc
    · rename_i hs
      injection hc with hc
      subst hc
      exact ⟨pureR_of h (fun v hv => indexVM_str hs hv), rfl⟩
    · obtain ⟨a, h3, hc⟩ := bnd_eq_some.1 hc
      obtain ⟨y, h4, hc⟩ := bnd_eq_some.1 hc
      injection hc with hc
      subst hc
      exact ⟨pureR_of h (fun v hv => indexVM_arr (e := a.2) h3 h4 hv), rfl⟩
  | lookup t m k ok =>
    simp only [cOp] at hc
    obtain ⟨m, h1, hc⟩ := bnd_eq_some.1 hc
    obtain ⟨k, h2, hc⟩ := bnd_eq_some.1 hc
    obtain ⟨kt, h3, hc⟩ := bnd_eq_some.1 hc
    obtain ⟨key, h4, hc⟩ := bnd_eq_some.1 hc
    obtain ⟨y, h5, hc⟩ := bnd_eq_some.1 hc
    injection hc with hc
    subst hc
    refine ⟨?_, rfl⟩
    simp only [opStep, cX_ok h1, cX_ok h2, bnd_some]
    exact pureR_of h (fun v hv => lookM_ok h3 h4 h5 hv)
  | mapUpdate t m k x =>
    simp only [cOp] at hc
    obtain ⟨m, h1, hc⟩ := bnd_eq_some.1 hc
    obtain ⟨k, h2, hc⟩ := bnd_eq_some.1 hc
    obtain ⟨x, h3, hc⟩ := bnd_eq_some.1 hc
    obtain ⟨kt, h4, hc⟩ := bnd_eq_some.1 hc
    obtain ⟨key, h5, hc⟩ := bnd_eq_some.1 hc
    injection hc with hc
    subst hc
    refine ⟨?_, rfl⟩
    simp only [opStep, cX_ok h1, cX_ok h2, cX_ok h3, bnd_some]
    exact unitR_of h (fun v hv => mupdM_ok h4 h5 hv)
  | insert t m k x =>
    simp only [cOp] at hc
    obtain ⟨m, h1, hc⟩ := bnd_eq_some.1 hc
    obtain ⟨k, h2, hc⟩ := bnd_eq_some.1 hc
    obtain ⟨x, h3, hc⟩ := bnd_eq_some.1 hc
    obtain ⟨kt, h4, hc⟩ := bnd_eq_some.1 hc
    obtain ⟨key, h5, hc⟩ := bnd_eq_some.1 hc
    injection hc with hc
    subst hc
    refine ⟨?_, rfl⟩
    simp only [opStep, cX_ok h1, cX_ok h2, cX_ok h3, bnd_some]
    exact unitR_of h (fun v hv => mupdM_ok h4 h5 hv)
  | typeAssert x s t ok =>
    simp only [cOp] at hc
    split at hc
    · cases hc
    · rename_i hi
      obtain ⟨a, h1, hc⟩ := bnd_eq_some.1 hc
      injection hc with hc
      subst hc
      refine ⟨?_, rfl⟩
      simp only [opStep, cX_ok h1, bnd_some]
      exact pureR_of h (fun v hv => tassertM_ok hi hv)
  | extract x i =>
    simp only [cOp] at hc
    obtain ⟨a, h1, hc⟩ := bnd_eq_some.1 hc
    injection hc with hc
    subst hc
    refine ⟨?_, rfl⟩
    simp only [opStep, cX_ok h1, bnd_some]
    exact h
  | call c =>
    obtain ⟨ce, args, ts⟩ := c
    cases ce with
    | value f => cases hp
    | invoke r n => simp [cOp] at hc
    | builtin b =>
      simp only [cOp] at hc
      split at hc
      · rename_i t x ht hx
        obtain ⟨x, h1, hc⟩ := bnd_eq_some.1 hc
        simp only [opStep, hx, ht, evalL, cX_ok h1, bnd_some, builtinO]
        split at hc
        · rename_i hs
          injection hc with hc
          subst hc
          exact ⟨pureR_of h (fun v hv => lenM_str hs hv), rfl⟩
        · split at hc
          · rename_i hs
            injection hc with hc
            subst hc
            exact ⟨pureR_of h (fun v hv => lenM_sl hs hv), rfl⟩
          · split at hc
            · rename_i hs
              injection hc with hc
              subst hc
              exact ⟨pureR_of h (fun v hv => lenM_map hs hv), rfl⟩
            · cases hc
      · rename_i t t2 s x ht hx
        obtain ⟨s, h1, hc⟩ := bnd_eq_some.1 hc
        obtain ⟨x, h2, hc⟩ := bnd_eq_some.1 hc
        obtain ⟨e, h3, hc⟩ := bnd_eq_some.1 hc
        obtain ⟨y, h4, hc⟩ := bnd_eq_some.1 hc
        split at hc
        · rename_i hy
          injection hc with hc
          subst hc
          refine ⟨?_, rfl⟩
          obtain ⟨p, H'⟩ := r
          simp only [opStep, hx, ht, evalL, cX_ok h1, cX_ok h2, bnd_some, builtinO]
          exact appendM_ok h3 h4 hy h
        · cases hc
      · rename_i x l hx
        obtain ⟨x, h1, hc⟩ := bnd_eq_some.1 hc
        obtain ⟨l, h2, hc⟩ := bnd_eq_some.1 hc
        injection hc with hc
        subst hc
        refine ⟨?_, rfl⟩
        simp only [opStep, hx, evalL, cX_ok h1, cL_ok h2, bnd_some, builtinO]
        exact h
      · rename_i x l hx
        obtain ⟨x, h1, hc⟩ := bnd_eq_some.1 hc
        obtain ⟨l, h2, hc⟩ := bnd_eq_some.1 hc
        injection hc with hc
        subst hc
        refine ⟨?_, rfl⟩
        simp only [opStep, hx, evalL, cX_ok h1, cL_ok h2, bnd_some, builtinO]
        exact h
      · cases hc
  | _ => simp [cOp] at hc

def Pm (o : Option MOp) : Prop := ∀ m, o = some m → plainM m = true
theorem pm_bnd {α : Type} {o : Option α} {f : α → Option MOp} (h : ∀ a, Pm (f a)) : Pm (bnd o f) := fun m e => by
  obtain ⟨a, _, e⟩ := bnd_eq_some.1 e
  exact h a m e
theorem pm_none : Pm none := fun m e => by cases e
theorem pm_some {m : MOp} (h : plainM m = true) : Pm (some m) := fun q e => by injection e with e; subst e; exact h
theorem cOp_plain {op : Op} (hp : plainO op = true) : Pm (cOp E op) := by
  cases op with
  | call c =>
    obtain ⟨ce, args, ts⟩ := c
    cases ce with
    | value f => cases hp
    | invoke r n => exact pm_none
    | builtin b =>
      simp only [cOp]
      repeat' (with_reducible first
        | exact pm_none
        | exact pm_some rfl
        | (refine pm_bnd (fun _ => ?_))
        | split)
  | buildSlice t n ps => cases hp
  | panic x => cases hp
  | makeFunc fn a b =>
    cases fn with
    | func f => exact pm_bnd fun _ => pm_bnd fun _ => pm_some rfl
    | _ => exact pm_none
  | makeMap t r =>
    cases r with
    | none => exact pm_some rfl
    | some r => exact pm_none
  | slice t x l h m =>
    cases m with
    | none =>
      simp only [cOp]
      repeat' (with_reducible first
        | exact pm_none
        | exact pm_some rfl
        | (refine pm_bnd (fun _ => ?_))
        | split)
    | some m => exact pm_none
  | _ =>
    simp only [cOp]
    repeat' (with_reducible first
      | exact pm_none
      | exact pm_some rfl
      | (refine pm_bnd (fun _ => ?_))
      | split)
theorem cG_ok {ops : Array Oper} {g : Option (Nat × Bool)} {g' : Option (Nat × Bool)} {T : Nat → PV} (h : cG ops g = some g') : wantedS ops T g = wantedM T g' := by
  cases g with
  | none => simp only [cG] at h; injection h with h; subst h; rfl
  | some gw =>
    obtain ⟨j, want⟩ := gw
    simp only [cG] at h
    obtain ⟨d, h1, h2⟩ := bnd_eq_some.1 h
    injection h2 with h2
    subst h2
    simp only [wantedS, wantedM, h1]
    rfl

theorem stepM_ok {callc : CallC} {run : Run} {ops : Array Oper} {draw : Bool} {o : Oper} {m : MOp} {g : Option (Nat × Bool)} {T : Nat → PV} {H : Ob} {next : Nat} {x : Step} (hc : cOp E o.op = some m) (hg : cG ops o.guard = some g)
    (h : stepM E callc run draw ⟨o.dst, g, m⟩ T H next = some x) : stepO E callc run ops draw o T H next = some x := by
  by_cases hp : plainO o.op = true
  · rw [stepO_plain hp, cG_ok hg]
    have hpm := cOp_plain hp m hc
    rw [stepM_plain hpm] at h
    simp only at h
    by_cases hw : wantedM T g = true
    · rw [if_pos hw] at h ⊢
      obtain ⟨r, h1, h2⟩ := bnd_eq_some.1 h
      rw [(mstep_ok hc hp h1).1]
      exact h2
    · rw [if_neg hw] at h ⊢
      exact h
  · obtain ⟨dst, op, ty, pos, af, gd⟩ := o
    simp only at hc hg hp h
    cases op with
    | buildSlice t n ps =>
      simp only [cOp] at hc
      obtain ⟨e, h1, hc⟩ := bnd_eq_some.1 hc
      obtain ⟨y, h2, hc⟩ := bnd_eq_some.1 hc
      split at hc
      · rename_i hy
        obtain ⟨q, h3, hc⟩ := bnd_eq_some.1 hc
        injection hc with hc
        subst hc
        rw [stepM_plain rfl] at h
        unfold stepO
        simp only at h ⊢
        rw [cG_ok hg]
        split at h
        · rename_i hw
          rw [if_pos hw, cP_ok h3]
          obtain ⟨r, h4, h5⟩ := bnd_eq_some.1 h
          simp only [mstep] at h4
          simp only [bnd_some]
          split at h4
          · cases h4
          · rename_i hd
            obtain ⟨r2, h6, h7⟩ := bnd_eq_some.1 h4
            injection h7 with h7
            subst h7
            rw [if_neg (by
              intro hh
              apply hd
              refine ⟨hh.1, ?_⟩
              have := hh.2
              rw [List.all_map] at this
              exact this)]
            unfold buildSliceO
            rw [h1]
            simp only
            rw [h2]
            simp only
            rw [if_pos hy, h6]
            exact h5
        · rename_i hw
          rw [if_neg hw]
          exact h
      · cases hc
    | panic y =>
      simp only [cOp] at hc
      obtain ⟨a, h1, hc⟩ := bnd_eq_some.1 hc
      injection hc with hc
      subst hc
      unfold stepO
      unfold stepM at h
      simp only at h ⊢
      rw [cG_ok hg]
      split at h
      · rename_i hw
        rw [if_pos hw, cX_ok h1]
        exact h
      · rename_i hw
        rw [if_neg hw]
        exact h
    | call c =>
      obtain ⟨ce, args, ts⟩ := c
      cases ce with
      | value f =>
        unfold stepO
        unfold stepM at h
        simp only at h ⊢
        rw [cG_ok hg]
        by_cases hw : wantedM T g = true
        · rw [if_pos hw] at h ⊢
          have fin : ∀ {fv : PV} {al : List PV} {c : FuncId × List PV × List PV}, evalO E T f = some fv → evalL E T args.toList = some al → callee fv = some c →
              (bnd (doCall E callc run draw c.1 (c.2.1 ++ al ++ c.2.2) H (next + 1)) fun r => some (afterCall T dst r)) = some x →
              (bnd (evalO E T f) fun fv => bnd (evalL E T args.toList) fun args => bnd (callee fv) fun c => bnd (doCall E callc run draw c.1 (c.2.1 ++ args ++ c.2.2) H (next + 1)) fun r => match r.1 with
                | .ret v => some (.go (putT T dst v) r.2.1 r.2.2)
                | .panic v => some (.panic v T r.2.1 r.2.2)) = some x := by
            intro fv al c e1 e2 e3 hh
            rw [e1, bnd_some, e2, bnd_some, e3, bnd_some]
            obtain ⟨r, h4, h5⟩ := bnd_eq_some.1 hh
            rw [h4, bnd_some]
            unfold afterCall at h5
            cases hr : r.1 with
            | ret v => rw [hr] at h5; exact h5
            | panic v => rw [hr] at h5; exact h5
          have indirect : ∀ fm, cX E f = some fm → (bnd (cL E args.toList) fun a => some (MOp.callv fm a)) = some m →
              (bnd (evalO E T f) fun fv => bnd (evalL E T args.toList) fun args => bnd (callee fv) fun c => bnd (doCall E callc run draw c.1 (c.2.1 ++ args ++ c.2.2) H (next + 1)) fun r => match r.1 with
                | .ret v => some (.go (putT T dst v) r.2.1 r.2.2)
                | .panic v => some (.panic v T r.2.1 r.2.2)) = some x := by
            intro fm e hc
            obtain ⟨a, h1, hc⟩ := bnd_eq_some.1 hc
            injection hc with hc
            subst hc
            simp only at h
            obtain ⟨c, h2, h3⟩ := bnd_eq_some.1 h
            exact fin (cX_ok e) (cL_ok h1) h2 h3
          cases f with
          | func f0 =>
            simp only [cOp] at hc
            obtain ⟨a, h1, hc⟩ := bnd_eq_some.1 hc
            injection hc with hc
            subst hc
            exact fin (fv := .s (.func f0)) (c := (f0, [], [])) rfl (cL_ok h1) rfl (by simpa using h)
          | tmp t =>
            simp only [cOp] at hc
            obtain ⟨fm, h1, hc⟩ := bnd_eq_some.1 hc
            exact indirect fm h1 hc
          | const v =>
            simp only [cOp] at hc
            obtain ⟨fm, h1, hc⟩ := bnd_eq_some.1 hc
            exact indirect fm h1 hc
          | global v =>
            simp only [cOp] at hc
            obtain ⟨fm, h1, hc⟩ := bnd_eq_some.1 hc
            exact indirect fm h1 hc
        · rw [if_neg hw] at h ⊢
          exact h
      | _ => exact absurd rfl hp
    | _ => exact absurd rfl hp

theorem opsM_ok {callc : CallC} {run : Run} {ops : Array Oper} {draw : Bool} {e : Ex × St} : ∀ {os : List Oper} {l : List MOper} {T : Nat → PV} {H : Ob} {next : Nat}, cOps E ops os = some l → opsM E callc run draw l T H next = some e → opsO E callc run ops draw os T H next = some e
  | [], l, T, H, next, hc, h => by
    simp only [cOps] at hc
    injection hc with hc
    subst hc
    exact h
  | o :: os, l, T, H, next, hc, h => by
    simp only [cOps] at hc
    obtain ⟨m, h1, hc⟩ := bnd_eq_some.1 hc
    obtain ⟨g, h2, hc⟩ := bnd_eq_some.1 hc
    obtain ⟨q, h3, hc⟩ := bnd_eq_some.1 hc
    injection hc with hc
    subst hc
    simp only [opsM] at h
    obtain ⟨x, h4, h5⟩ := bnd_eq_some.1 h
    simp only [opsO]
    rw [stepM_ok h1 h2 h4, bnd_some]
    cases x with
    | go T1 H1 n1 => exact opsM_ok h3 h5
    | panic v T1 H1 n1 => exact h5
end
end Go.Vm
