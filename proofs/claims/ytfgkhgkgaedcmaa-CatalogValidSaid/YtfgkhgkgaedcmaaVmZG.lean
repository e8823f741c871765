/- One operation as statements, joined; a region. -/
import Derived.Test.YtfgkhgkgaedcmaaVmZF
set_option linter.unusedVariables false
set_option linter.unusedSimpArgs false
namespace Go.Vm

section
variable {E : Env} {D : List Nat}

theorem sureAll_lk : Lk (fun p : Pe => { p with sure := true }) := fun p => ⟨rfl, rfl, rfl, rfl⟩
theorem sureIf_lk {P : Pe → Bool} : Lk (fun p : Pe => if P p = true then { p with sure := true } else p) := by
  intro p
  simp only
  split <;> exact ⟨rfl, rfl, rfl, rfl⟩
theorem Same.ok {T : Nat → PV} {H : Ob} {p q : Pe} (h : Same p q) : Ok T H p ↔ Ok T H q := by
  unfold Ok
  rw [h.2.2.1, h.2.2.2]
theorem kill_mem {d : Option Nat} {hp : Bool} {S : List Pe} {p : Pe} (h : p ∈ kill d hp S) : ∃ q ∈ S, mentions d hp q = false ∧ Same p q ∧ p.sure = q.sure := by
  rw [kill_eq] at h
  obtain ⟨q, hq, e⟩ := List.mem_map.1 h
  obtain ⟨h1, h2⟩ := List.mem_filter.1 hq
  refine ⟨q, h1, by simpa using h2, ?_, ?_⟩
  · rw [← e]; exact deadf_lk _ q
  · rw [← e]
    unfold deadf
    split
    · split <;> rfl
    · rfl
theorem kill_has {d : Option Nat} {hp : Bool} {S : List Pe} {q : Pe} (hq : q ∈ S) (hm : mentions d hp q = false) : ∃ p ∈ kill d hp S, Same p q := by
  rw [kill_eq]
  exact ⟨_, List.mem_map.2 ⟨q, List.mem_filter.2 ⟨hq, by simp [hm]⟩, rfl⟩, deadf_lk _ q⟩

theorem set_ok {draw : Bool} {S S1 : List Pe} {o : MOper} {l1 rest : List St1} {T : Nat → PV} {H : Ob} {n : Nat} {r : Ex × St} {d : Nat} (hI : Inv D S) (hsu : Su S T H) (ho : o.d = some d) (hD : D.contains d = false) (hp : isPure o.op = true) (hgn : o.g = none)
    (h : (bnd (mkX D S none o.op) fun e => some (needsOf ((S.filter (mentions (some d) false)).filter fun p => !cvd S none o.op p) ++ [St1.set d e, .tick 1], kill (some d) false (S.map fun p => if cvd S none o.op p then { p with sure := true } else p))) = some (l1, S1))
    (hr : sts E draw (l1 ++ rest) T H n = some r) : Inv D S1 ∧ StepOk E draw D S S1 o rest T H n r := by
  obtain ⟨e, he, h⟩ := bnd_eq_some.1 h
  injection h with h
  injection h with h1 h2
  subst h1
  subst h2
  have hg : gdOf D S none = some [] := rfl
  rw [List.append_assoc] at hr
  obtain ⟨hn1, hn2⟩ := needs_run hr
  simp only [List.cons_append, List.nil_append, sts, st1] at hn2
  obtain ⟨x, hx, hn2⟩ := bnd_eq_some.1 hn2
  obtain ⟨v, hv, hx⟩ := bnd_eq_some.1 hx
  injection hx with hx
  subst hx
  simp only [bnd_some] at hn2
  have hcov : ∀ p ∈ S, cvd S none o.op p = true → Ok T H p := by
    intro p hpS hc hh
    obtain ⟨_, k2⟩ := cvd_imp hI hg (d := d) he hpS hc T H hh
    exact k2 ⟨v, hv⟩
  have hdD : ∀ x, (some d : Option Nat) = some x → D.contains x = false := fun x hx => by injection hx with hx; rw [← hx]; exact hD
  have hsub : ∀ p ∈ kill (some d) false (S.map fun p => if cvd S none o.op p then { p with sure := true } else p), ∃ q ∈ S, mentions (some d) false q = false ∧ Same p q ∧ (p.sure = true → q.sure = true ∨ cvd S none o.op q = true) := by
    intro p hp'
    obtain ⟨q', hq', hm, hs, hsu'⟩ := kill_mem hp'
    obtain ⟨q, hq, e1⟩ := List.mem_map.1 hq'
    have hlk := sureIf_lk (P := cvd S none o.op) q
    simp only at hlk e1
    rw [e1] at hlk
    have hm' : mentions (some d) false q = mentions (some d) false q' := by unfold mentions; rw [hlk.2.2.1, hlk.2.2.2]
    refine ⟨q, hq, by rw [hm']; exact hm, ⟨hs.1.trans hlk.1, hs.2.1.trans hlk.2.1, hs.2.2.1.trans hlk.2.2.1, hs.2.2.2.trans hlk.2.2.2⟩, fun hsp => ?_⟩
    rw [hsu'] at hsp
    rw [← e1] at hsp
    split at hsp
    · rename_i hc; exact .inr hc
    · exact .inl hsp
  have hinv : Inv D (kill (some d) false (S.map fun p => if cvd S none o.op p then { p with sure := true } else p)) := (hI.map sureIf_lk (fun p hp k hk => by
    split at hk <;> exact hk)).kill
  have hne : False = (false = true) := by simp
  refine ⟨hinv, .inl ⟨upd T d v, H, n + 1, hn2, fun p hp' hs => ?_, fun hok => ⟨?_, fun T' hS => ?_⟩⟩⟩
  · obtain ⟨q, hq, hm, hsm, hc⟩ := hsub p hp'
    have : Ok T H q := by
      rcases hc hs with h1 | h1
      · exact hsu q hq h1
      · exact hcov q hq h1
    have := (mentions_ok (T := T) (H := H) (H1 := H) (v := v) hm (fun _ => rfl)).2 this
    exact hsm.ok.2 this
  · refine Cv.ok hI.cv (fun q hq => by cases hq) (fun p hpS hcv => ?_)
    cases hsr : p.sure with
    | true => exact hsu p hpS hsr
    | false =>
      cases hc : cvd S none o.op p with
      | true => exact hcov p hpS hc
      | false =>
        cases hm : mentions (some d) false p with
        | true => exact hn1 p (List.mem_filter.2 ⟨List.mem_filter.2 ⟨hpS, hm⟩, by simp [hc]⟩) hcv hsr
        | false =>
          have hmem : p ∈ S.map fun p => if cvd S none o.op p then { p with sure := true } else p := List.mem_map.2 ⟨p, hpS, by simp [hc]⟩
          obtain ⟨p', hp', hsm⟩ := kill_has (d := some d) (hp := false) hmem hm
          have := hsm.ok.1 (hok p' hp')
          exact (mentions_ok (T := T) (H := H) (H1 := H) (v := v) hm (fun _ => rfl)).1 this
  · refine ⟨putT T' (some d) v, ?_, Sim.kept (hp := false) (v := v) hI hS hdD (fun _ => rfl) (fun p hp' => ?_)⟩
    · obtain ⟨od, og, oop⟩ := o
      simp only at ho hp he hgn
      subst ho; subst hgn
      rw [stepM_plain (isPure_plain hp)]
      simp only [wantedM, if_true]
      rw [mkX_ok hI hS hg Holds.nil hp he hv]
      rfl
    · obtain ⟨q, hq, hm, hsm, _⟩ := hsub p hp'
      exact ⟨q, hq, hm, hsm⟩

theorem act_ok {draw : Bool} {S S1 : List Pe} {o : MOper} {l1 rest : List St1} {T : Nat → PV} {H : Ob} {n : Nat} {r : Ex × St} (hI : Inv D S) (hsu : Su S T H) (hdD : ∀ x, o.d = some x → D.contains x = false) (hp : isPure o.op = false)
    (h : (bnd (gdOf D S o.g) fun g => bnd (rdL D S o.g (slotsOf o.op)) fun l => some (needsOf (S.filter fun p => !cvd S o.g o.op p) ++ [St1.act o.d g o.op l], (kill o.d true S).map fun p => { p with sure := true })) = some (l1, S1))
    (hr : sts E draw (l1 ++ rest) T H n = some r) : Inv D S1 ∧ StepOk E draw D S S1 o rest T H n r := by
  obtain ⟨g, hg, h⟩ := bnd_eq_some.1 h
  obtain ⟨l, hl, h⟩ := bnd_eq_some.1 h
  injection h with h
  injection h with h1 h2
  subst h1
  subst h2
  rw [List.append_assoc] at hr
  obtain ⟨hn1, hn2⟩ := needs_run hr
  simp only [List.cons_append, List.nil_append, sts, st1] at hn2
  obtain ⟨x, hx, hn2⟩ := bnd_eq_some.1 hn2
  obtain ⟨b, hb, hx⟩ := bnd_eq_some.1 hx
  have hinv : Inv D ((kill o.d true S).map fun p => { p with sure := true }) := (hI.kill).map sureAll_lk (fun p _ k hk => hk)
  have hsub : ∀ p ∈ (kill o.d true S).map (fun p => { p with sure := true }), ∃ q ∈ S, mentions o.d true q = false ∧ Same p q := by
    intro p hp'
    obtain ⟨q', hq', e1⟩ := List.mem_map.1 hp'
    obtain ⟨q, hq, hm, hs, _⟩ := kill_mem hq'
    refine ⟨q, hq, hm, ?_⟩
    rw [← e1]
    exact hs
  have hcvd : ∀ p, cvd S o.g o.op p = true → p.gd = o.g ∧ (slotsOf o.op).contains p.d = true := by
    intro p hc
    cases hop : o.op with
    | pick c a b => rw [hop] at hp; cases hp
    | mv x => rw [hop] at hp; cases hp
    | _ =>
      rw [hop] at hc
      simpa only [cvd, Bool.and_eq_true, beq_iff_eq] using hc
  have hall : (b = true → ∃ q, evS T H l = some q) → ∀ p ∈ S, Ok T H p := by
    intro hq
    refine Cv.ok hI.cv (fun q hq => by cases hq) (fun p hpS hcv => ?_)
    cases hsr : p.sure with
    | true => exact hsu p hpS hsr
    | false =>
      cases hc : cvd S o.g o.op p with
      | false => exact hn1 p (List.mem_filter.2 ⟨hpS, by simp [hc]⟩) hcv hsr
      | true =>
        obtain ⟨c1, c2⟩ := hcvd p hc
        intro hh
        have e1 := hI.gd p hpS
        rw [c1, hg] at e1
        injection e1 with e1
        rw [← e1] at hh
        obtain ⟨q, hq⟩ := hq ((evG_holds hb).2 hh)
        exact evS_mem hq (rdL_read hI hpS hl c2)
  have hsuOf : ∀ {v : PV} {H1 : Ob}, (∀ p ∈ S, Ok T H p) → Su ((kill o.d true S).map fun p => { p with sure := true }) (putT T o.d v) H1 := by
    intro v H1 hok p hp' _
    obtain ⟨q, hq, hm, hs⟩ := hsub p hp'
    exact hs.ok.2 ((mentions_ok (T := T) (H := H) (H1 := H1) (v := v) hm (fun h => by cases h)).2 (hok q hq))
  split at hx
  · rename_i hbt
    obtain ⟨q, hq, hx⟩ := bnd_eq_some.1 hx
    obtain ⟨r', hr', hx⟩ := bnd_eq_some.1 hx
    injection hx with hx
    have hok := hall (fun _ => ⟨q, hq⟩)
    have hh : Holds T H g := (evG_holds hb).1 hbt
    have hstep : ∀ T', Sim D S T T' H → stepM E (calL E) (runL E) draw o T' H n = some (afterCall T' o.d r') := by
      intro T' hS
      rw [stepM_act, if_pos ((wanted_ok hI hS hok hg).2 hh), actV_congr (rdL_ok hI hS hg hh hl hq), hr', bnd_some]
    obtain ⟨out, H1, n1⟩ := r'
    cases out with
    | ret v =>
      simp only [afterCall] at hx
      subst hx
      simp only at hn2
      refine ⟨hinv, .inl ⟨_, _, _, hn2, hsuOf hok, fun _ => ⟨hok, fun T' hS => ⟨putT T' o.d v, ?_, Sim.kept (hp := true) (v := v) hI hS hdD (fun h => by cases h) (hsub)⟩⟩⟩⟩
      rw [hstep T' hS]
      rfl
    | panic v =>
      simp only [afterCall] at hx
      subst hx
      simp only at hn2
      split at hn2
      · cases hn2
      · rename_i hdr
        injection hn2 with hn2
        refine ⟨hinv, .inr ⟨by simpa using hdr, v, T, H1, n1, hn2.symm, hok, fun T' hS => ⟨T', ?_⟩⟩⟩
        rw [hstep T' hS]
        rfl
  · rename_i hbf
    injection hx with hx
    subst hx
    have hok := hall (fun h => absurd h hbf)
    have hh : ¬ Holds T H g := fun h => hbf ((evG_holds hb).2 h)
    refine ⟨hinv, .inl ⟨_, _, _, hn2, hsuOf hok, fun _ => ⟨hok, fun T' hS => ⟨putT T' o.d .undef, ?_, Sim.kept (hp := true) (v := .undef) hI hS hdD (fun _ => rfl) (hsub)⟩⟩⟩⟩
    rw [stepM_act, if_neg (fun h => hh ((wanted_ok hI hS hok hg).1 h))]

theorem tr1_ok {draw : Bool} {S S1 : List Pe} {o : MOper} {l1 rest : List St1} {T : Nat → PV} {H : Ob} {n : Nat} {r : Ex × St} (hI : Inv D S) (hsu : Su S T H) (h : tr1 D S o = some (l1, S1)) (hr : sts E draw (l1 ++ rest) T H n = some r) : Inv D S1 ∧ StepOk E draw D S S1 o rest T H n r := by
  unfold tr1 at h
  simp only at h
  split at h
  · rename_i hp
    split at h
    · rename_i d ho hpe
      rw [ho] at hpe
      exact pend_ok hI hsu ho hpe hp h hr
    · rename_i d ho hpe
      rw [ho] at hpe
      split at h
      · rename_i hgn
        exact set_ok hI hsu ho hpe hp hgn h hr
      · cases h
    · cases h
  · rename_i hp
    cases hod : o.d with
    | none =>
      rw [hod] at h
      simp only [Bool.false_eq_true, if_false] at h
      rw [← hod] at h
      exact act_ok hI hsu (fun x hx => by rw [hod] at hx; cases hx) (by simpa using hp) h hr
    | some x =>
      rw [hod] at h
      simp only at h
      by_cases hpe : D.contains x = true
      · rw [if_pos hpe] at h
        cases h
      · rw [if_neg hpe] at h
        rw [← hod] at h
        exact act_ok hI hsu (fun y hy => by rw [hod] at hy; injection hy with hy; rw [← hy]; simpa using hpe) (by simpa using hp) h hr

def RunOf (E : Env) (draw : Bool) (D : List Nat) (S Sf : List Pe) (os : List MOper) (rest : List St1) (T : Nat → PV) (H : Ob) (n : Nat) (r : Ex × St) : Prop :=
  (∃ T1 H1 n1, sts E draw rest T1 H1 n1 = some r ∧ Su Sf T1 H1 ∧ ((∀ p ∈ Sf, Ok T1 H1 p) → (∀ p ∈ S, Ok T H p) ∧ ∀ T', Sim D S T T' H → ∃ T1', opsM E (calL E) (runL E) draw os T' H n = some (.normal, ⟨T1', H1, n1⟩) ∧ Sim D Sf T1 T1' H1)) ∨
  (draw = false ∧ ∃ v Tp Hp np, r = (.panic v, ⟨Tp, Hp, np⟩) ∧ (∀ p ∈ S, Ok T H p) ∧ ∀ T', Sim D S T T' H → ∃ Tp', opsM E (calL E) (runL E) draw os T' H n = some (.panic v, ⟨Tp', Hp, np⟩))
theorem trL_inv {S Sf : List Pe} : ∀ {os : List MOper} {l : List St1}, True → True := fun _ => trivial
theorem trL_ok {draw : Bool} {rest : List St1} {r : Ex × St} : ∀ {os : List MOper} {S Sf : List Pe} {l : List St1} {T : Nat → PV} {H : Ob} {n : Nat}, Inv D S → Su S T H → trL D S os = some (l, Sf) → sts E draw (l ++ rest) T H n = some r →
    ((∃ v Tp Hp np, r = (.panic v, ⟨Tp, Hp, np⟩)) ∨ Inv D Sf) ∧ RunOf E draw D S Sf os rest T H n r
  | [], S, Sf, l, T, H, n, hI, hsu, h, hr => by
    simp only [trL] at h
    injection h with h
    injection h with h1 h2
    subst h1; subst h2
    exact ⟨.inr hI, .inl ⟨T, H, n, hr, hsu, fun hok => ⟨hok, fun T' hS => ⟨T', rfl, hS⟩⟩⟩⟩
  | o :: os, S, Sf, l, T, H, n, hI, hsu, h, hr => by
    simp only [trL] at h
    obtain ⟨⟨l1, S1⟩, h1, h⟩ := bnd_eq_some.1 h
    obtain ⟨⟨l2, S2⟩, h2, h⟩ := bnd_eq_some.1 h
    injection h with h
    injection h with e1 e2
    subst e1; subst e2
    simp only at h2 hr
    rw [List.append_assoc] at hr
    obtain ⟨hI1, hst⟩ := tr1_ok hI hsu h1 hr
    rcases hst with ⟨T1, H1, n1, hr1, hsu1, hk⟩ | ⟨hdr, v, Tp, Hp, np, e3, hok, hk⟩
    · obtain ⟨hIf, hrun⟩ := trL_ok hI1 hsu1 h2 hr1
      refine ⟨hIf, ?_⟩
      rcases hrun with ⟨T2, H2, n2, hr2, hsu2, hk2⟩ | ⟨hdr, v, Tp, Hp, np, e3, hok, hk2⟩
      · refine .inl ⟨T2, H2, n2, hr2, hsu2, fun hokf => ?_⟩
        obtain ⟨ok1, sim1⟩ := hk2 hokf
        obtain ⟨ok0, sim0⟩ := hk ok1
        refine ⟨ok0, fun T' hS => ?_⟩
        obtain ⟨T1', g1, g2⟩ := sim0 T' hS
        obtain ⟨T2', g3, g4⟩ := sim1 T1' g2
        refine ⟨T2', ?_, g4⟩
        simp only [opsM, g1, bnd_some]
        exact g3
      · obtain ⟨ok0, sim0⟩ := hk hok
        refine .inr ⟨hdr, v, Tp, Hp, np, e3, ok0, fun T' hS => ?_⟩
        obtain ⟨T1', g1, g2⟩ := sim0 T' hS
        obtain ⟨Tp', g3⟩ := hk2 T1' g2
        refine ⟨Tp', ?_⟩
        simp only [opsM, g1, bnd_some]
        exact g3
    · refine ⟨.inl ⟨v, Tp, Hp, np, e3⟩, .inr ⟨hdr, v, Tp, Hp, np, e3, hok, fun T' hS => ?_⟩⟩
      obtain ⟨Tp', g1⟩ := hk T' hS
      refine ⟨Tp', ?_⟩
      subst hdr
      simp only [opsM, g1, bnd_some]
      rfl
theorem ticks_ok {draw : Bool} : ∀ (l : List St1) (m : Nat) (T : Nat → PV) (H : Ob) (n : Nat), sts E draw (ticks m l) T H n = sts E draw l T H (n + m)
  | [], 0, T, H, n => rfl
  | [], m + 1, T, H, n => by simp only [ticks, sts, st1, bnd_some]
  | .tick k :: r, m, T, H, n => by
    simp only [ticks, sts, st1, bnd_some]
    rw [ticks_ok r (m + k) T H n, Nat.add_assoc]
  | .set d e :: r, 0, T, H, n => by
    simp only [ticks, sts, st1]
    cases evX T H e with
    | none => rfl
    | some v => simp only [bnd_some]; exact ticks_ok r 0 _ _ _
  | .need g e :: r, 0, T, H, n => by
    simp only [ticks, sts, st1]
    cases evG T H g with
    | none => rfl
    | some b =>
      simp only [bnd_some]
      split
      · cases evX T H e with
        | none => rfl
        | some v => simp only [bnd_some]; exact ticks_ok r 0 _ _ _
      · simp only [bnd_some]; exact ticks_ok r 0 _ _ _
  | .act d g o l :: r, 0, T, H, n => by
    simp only [ticks, sts]
    cases st1 E draw (.act d g o l) T H n with
    | none => rfl
    | some x =>
      simp only [bnd_some, Nat.add_zero]
      cases x with
      | go T1 H1 n1 => simp only; exact ticks_ok r 0 _ _ _
      | panic v T1 H1 n1 => rfl
  | .set d e :: r, m + 1, T, H, n => by
    simp only [ticks, sts, st1]
    cases evX T H e with
    | none => rfl
    | some v => simp only [bnd_some]; exact ticks_ok r (m + 1) _ _ _
  | .need g e :: r, m + 1, T, H, n => by
    simp only [ticks, sts, st1]
    cases evG T H g with
    | none => rfl
    | some b =>
      simp only [bnd_some]
      split
      · cases evX T H e with
        | none => rfl
        | some v => simp only [bnd_some]; exact ticks_ok r (m + 1) _ _ _
      · simp only [bnd_some]; exact ticks_ok r (m + 1) _ _ _
  | .act d g o l :: r, m + 1, T, H, n => by
    simp only [ticks, sts]
    simp only [show st1 E draw (.tick (m + 1)) T H n = some (.go T H (n + (m + 1))) from rfl, bnd_some]
    cases st1 E draw (.act d g o l) T H (n + (m + 1)) with
    | none => rfl
    | some x =>
      simp only [bnd_some]
      cases x with
      | go T1 H1 n1 => simp only; exact ticks_ok r 0 _ _ _
      | panic v T1 H1 n1 => rfl
end
end Go.Vm
