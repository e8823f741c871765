/- One operation as statements. -/
import Derived.Test.YtfgkhgkgaedcmaaVmZD
set_option linter.unusedVariables false
set_option linter.unusedSimpArgs false
namespace Go.Vm

section
variable {E : Env} {D : List Nat}

theorem stepM_act {draw : Bool} {o : MOper} {T : Nat → PV} {H : Ob} {n : Nat} :
    stepM E (calL E) (runL E) draw o T H n = if wantedM T o.g then bnd (actV E draw o.op T H n) fun r => some (afterCall T o.d r) else some (.go (putT T o.d .undef) H (n + 1)) := by
  obtain ⟨d, g, op⟩ := o
  unfold stepM
  cases op with
  | call f args => rfl
  | callv f args =>
    simp only [actV]
    cases callee (valX T f) <;> rfl
  | panic x =>
    simp only [actV]
    cases valX T x with
    | s v => cases v <;> rfl
    | _ => rfl
  | _ =>
    simp only [actV]
    split
    · generalize mstep _ draw T H n = m
      cases m <;> rfl
    · rfl
theorem actV_congr {draw : Bool} {o : MOp} {q q2 : Nat → PV} {H : Ob} {n : Nat} (h : ∀ i ∈ slotsOf o, q2 i = q i) : actV E draw o q2 H n = actV E draw o q H n := by
  cases o with
  | call f args =>
    simp only [actV]
    rw [mapX_congr (fun i hi => h i (by simpa only [slotsOf] using hi))]
  | callv f args =>
    simp only [actV]
    rw [valX_congr (fun i hi => h i (by simp only [slotsOf, List.mem_append]; exact .inl hi)), mapX_congr (fun i hi => h i (by simp only [slotsOf, List.mem_append]; exact .inr hi))]
  | panic x =>
    simp only [actV]
    rw [valX_congr (fun i hi => h i (by simpa only [slotsOf] using hi))]
  | _ =>
    simp only [actV]
    rw [mstep_congr h]

theorem needs_run {draw : Bool} {rest : List St1} {T : Nat → PV} {H : Ob} {n : Nat} {r : Ex × St} : ∀ {L : List Pe}, sts E draw (needsOf L ++ rest) T H n = some r → (∀ p ∈ L, p.cv = none → p.sure = false → Ok T H p) ∧ sts E draw rest T H n = some r
  | [], h => ⟨(fun p hp => by cases hp), h⟩
  | p :: L, h => by
    unfold needsOf at h
    simp only [List.filter_cons] at h
    split at h
    · rename_i hc
      simp only [List.map_cons, List.cons_append, sts] at h
      obtain ⟨x, h1, h2⟩ := bnd_eq_some.1 h
      simp only [st1] at h1
      obtain ⟨b, h3, h4⟩ := bnd_eq_some.1 h1
      have key : Ok T H p ∧ x = .go T H n := by
        split at h4
        · obtain ⟨v, h5, h6⟩ := bnd_eq_some.1 h4
          injection h6 with h6
          exact ⟨fun _ => ⟨v, h5⟩, h6.symm⟩
        · rename_i hb
          injection h4 with h4
          exact ⟨fun hh => absurd ((evG_holds h3).2 hh) hb, h4.symm⟩
      rw [key.2] at h2
      obtain ⟨g1, g2⟩ := needs_run (L := L) h2
      refine ⟨fun q hq hcv hsu => ?_, g2⟩
      rcases List.mem_cons.1 hq with e | hq
      · rw [e]; exact key.1
      · exact g1 q hq hcv hsu
    · rename_i hc
      obtain ⟨g1, g2⟩ := needs_run (L := L) h
      refine ⟨fun q hq hcv hsu => ?_, g2⟩
      rcases List.mem_cons.1 hq with e | hq
      · subst e
        simp only [hcv, hsu, Option.isNone_none, Bool.not_false, Bool.true_and, Bool.not_eq_true', Bool.not_eq_false] at hc
        intro _
        cases he : q.e with
        | x m => exact ⟨_, rfl⟩
        | op o l => rw [he] at hc; simp [isX] at hc
        | pick c a b => rw [he] at hc; simp [isX] at hc
      · exact g1 q hq hcv hsu

theorem isPure_plain {o : MOp} (h : isPure o = true) : plainM o = true := by
  cases o <;> first | rfl | simp [isPure, kindM] at h

theorem wanted_ok {S : List Pe} {T T' : Nat → PV} {H : Ob} (hI : Inv D S) (hS : Sim D S T T' H) (hok : ∀ p ∈ S, Ok T H p) {G : Option (Nat × Bool)} {g : List (Xp × Bool)} (hg : gdOf D S G = some g) : (wantedM T' G = true ↔ Holds T H g) := by
  cases G with
  | none =>
    simp only [gdOf] at hg
    injection hg with hg
    subst hg
    exact ⟨fun _ => Holds.nil, fun _ => rfl⟩
  | some sw =>
    obtain ⟨s, w⟩ := sw
    have eqv : ∀ v : PV, ((match v with | .s (.bool b) => b == w | _ => false) = true ↔ v = .s (.bool w)) := by
      intro v
      cases v with
      | s v => cases v <;> simp
      | _ => simp
    have eqv' : (wantedM T' (some (s, w)) = true ↔ T' s = .s (.bool w)) := eqv (T' s)
    rw [eqv']
    simp only [gdOf] at hg
    split at hg
    · rename_i hD
      split at hg
      · rename_i q hq
        injection hg with hg
        subst hg
        obtain ⟨hq1, hq2⟩ := look1_mem hq
        rw [Holds.append, Holds.one]
        by_cases hh : Holds T H q.g
        · obtain ⟨v, hv⟩ := hok q hq1 hh
          have := (hS.ent q hq1).1 hh v hv
          rw [hq2] at this
          rw [this, hv]
          constructor
          · intro e; rw [e]; exact ⟨hh, rfl⟩
          · intro e; exact Option.some.inj e.2
        · have := (hS.ent q hq1).2 hh
          rw [hq2] at this
          rw [this]
          constructor
          · intro e; cases e
          · intro e; exact absurd e.1 hh
      · cases hg
    · rename_i hD
      injection hg with hg
      subst hg
      rw [Holds.one, hS.out s (by simpa using hD)]
      simp only [evX, valX]
      constructor
      · intro e; rw [e]
      · intro e; exact Option.some.inj e
/-- What the statement leaves alone. -/
theorem mentions_keep {d : Option Nat} {hp : Bool} {p : Pe} {T : Nat → PV} {H H1 : Ob} {v : PV} (hm : mentions d hp p = false) (hH : hp = false → H1 = H) : (Holds (putT T d v) H1 p.g ↔ Holds T H p.g) ∧ evX (putT T d v) H1 p.e = evX T H p.e := by
  unfold mentions at hm
  simp only [Bool.or_eq_false_iff] at hm
  have one : ∀ e : Xp, (men d e = false ∧ (hp && heapX e) = false) → evX (putT T d v) H1 e = evX T H e := by
    intro e he
    refine evX_keep (hp := hp) (fun x hx => ?_) (fun h => ?_) hH
    · subst hx
      exact he.1
    · have := he.2
      rw [h] at this
      simpa using this
  refine ⟨?_, one p.e hm.1⟩
  have hg : ∀ x ∈ p.g, evX (putT T d v) H1 x.1 = evX T H x.1 := by
    intro x hx
    have := hm.2
    rw [List.any_eq_false] at this
    have := this x hx
    simp only [Bool.or_eq_true, not_or, Bool.not_eq_true] at this
    exact one x.1 this
  unfold Holds
  constructor
  · intro h x hx; rw [← hg x hx]; exact h x hx
  · intro h x hx; rw [hg x hx]; exact h x hx
theorem mentions_ok {d : Option Nat} {hp : Bool} {p : Pe} {T : Nat → PV} {H H1 : Ob} {v : PV} (hm : mentions d hp p = false) (hH : hp = false → H1 = H) : (Ok (putT T d v) H1 p ↔ Ok T H p) := by
  obtain ⟨h1, h2⟩ := mentions_keep (T := T) (v := v) hm hH
  unfold Ok
  rw [h1, h2]
end
end Go.Vm
