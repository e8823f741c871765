/- Code by expressions is sound. -/
import Derived.Test.YtfgkhgkgaedcmaaVmZG
set_option linter.unusedVariables false
set_option linter.unusedSimpArgs false
namespace Go.Vm

section
variable {E : Env} {D : List Nat}

def RelE (D : List Nat) (Sf : List Pe) (T1 T1' : Nat → PV) (H1 : Ob) : Ex → Prop
  | .normal => Sim D Sf T1 T1' H1
  | .panic _ => True
  | _ => ∀ i, D.contains i = false → T1' i = T1 i
theorem Sim.nil {S : List Pe} {T T' : Nat → PV} {H H1 : Ob} (h : Sim D S T T' H) : Sim D [] T T' H1 := ⟨h.out, (fun p hp => by cases hp)⟩
theorem RelE.nil {S : List Pe} {T T' : Nat → PV} {H : Ob} {e : Ex} (h : RelE D S T T' H e) : RelE D [] T T' H e := by
  cases e with
  | normal => exact Sim.nil h
  | _ => exact h
theorem RelE.out {S : List Pe} {T T' : Nat → PV} {H : Ob} {e : Ex} (h : RelE D S T T' H e) (hp : ∀ v, e ≠ .panic v) : ∀ i, D.contains i = false → T' i = T i := by
  cases e with
  | normal => exact Sim.out h
  | panic v => exact absurd rfl (hp v)
  | _ => exact h
def SimC (E : Env) (D : List Nat) (S Sf : List Pe) (c : MC) (T : Nat → PV) (H : Ob) (n : Nat) (e : Ex) (s1 : St) : Prop :=
  (e = .normal → Inv D Sf ∧ Su Sf s1.T s1.H) ∧ ((e = .normal → ∀ p ∈ Sf, Ok s1.T s1.H p) → (∀ p ∈ S, Ok T H p) ∧ ∀ T', Sim D S T T' H → ∃ T1', X E c ⟨T', H, n⟩ = some (e, ⟨T1', s1.H, s1.next⟩) ∧ RelE D Sf s1.T T1' s1.H e)

theorem needs_all {S : List Pe} {T : Nat → PV} {H : Ob} (hI : Inv D S) (hsu : Su S T H) (h : ∀ p ∈ S, p.cv = none → p.sure = false → Ok T H p) : ∀ p ∈ S, Ok T H p :=
  Cv.ok hI.cv (fun q hq => by cases hq) (fun p hp hcv => by
    cases hs : p.sure with
    | true => exact hsu p hp hs
    | false => exact h p hp hcv hs)
theorem needsOf_nil {S : List Pe} (h : needsOf S = []) (T : Nat → PV) (H : Ob) : ∀ p ∈ S, p.cv = none → p.sure = false → Ok T H p := by
  intro p hp hcv hs
  unfold needsOf at h
  rw [List.map_eq_nil_iff, List.filter_eq_nil_iff] at h
  have := h p hp
  simp only [hcv, hs, Option.isNone_none, Bool.not_false, Bool.true_and, Bool.not_eq_true', Bool.not_eq_false] at this
  intro _
  cases he : p.e with
  | x m => exact ⟨_, rfl⟩
  | op o l => rw [he] at this; simp [isX] at this
  | pick c a b => rw [he] at this; simp [isX] at this
theorem reg_needs {S : List Pe} {s : St} {r : Ex × St} (h : Y E (.reg (needsOf S) false) s = some r) : r = (.normal, s) ∧ ∀ p ∈ S, p.cv = none → p.sure = false → Ok s.T s.H p := by
  simp only [Y] at h
  have h' : sts E false (needsOf S ++ []) s.T s.H s.next = some r := by rw [List.append_nil]; exact h
  obtain ⟨g1, g2⟩ := needs_run h'
  simp only [sts] at g2
  injection g2 with g2
  exact ⟨g2.symm, g1⟩
theorem endNeeds_run {S : List Pe} {c : SC} {s s1 : St} {e : Ex} (h : Y E (endNeeds S c) s = some (e, s1)) : Y E c s = some (e, s1) ∧ (e = .normal → ∀ p ∈ S, p.cv = none → p.sure = false → Ok s1.T s1.H p) := by
  unfold endNeeds at h
  split at h
  · rename_i hn
    exact ⟨h, fun _ => needsOf_nil hn _ _⟩
  · simp only [Y] at h
    obtain ⟨⟨e1, s2⟩, h1, h2⟩ := bnd_eq_some.1 h
    cases e1 with
    | normal =>
      simp only at h2
      obtain ⟨g1, g2⟩ := reg_needs (E := E) (S := S) (s := s2) (r := (e, s1)) (by simp only [Y]; exact h2)
      injection g1 with g1 g3
      subst g1; subst g3
      exact ⟨h1, fun _ => g2⟩
    | _ =>
      simp only at h2
      injection h2 with h2
      injection h2 with h2 h3
      subst h2; subst h3
      exact ⟨h1, fun h => by cases h⟩
theorem withNeeds_run {S : List Pe} {c : SC} {s : St} {r : Ex × St} (h : Y E (withNeeds S c) s = some r) : Y E c s = some r ∧ ∀ p ∈ S, p.cv = none → p.sure = false → Ok s.T s.H p := by
  unfold withNeeds at h
  split at h
  · rename_i hn
    exact ⟨h, needsOf_nil hn _ _⟩
  · simp only [Y] at h
    obtain ⟨x, h1, h2⟩ := bnd_eq_some.1 h
    obtain ⟨g1, g2⟩ := reg_needs (E := E) (S := S) (s := s) (r := x) (by simp only [Y]; exact h1)
    subst g1
    simp only at h2
    exact ⟨h2, g2⟩
theorem Inv.nil : Inv D [] := ⟨(fun p hp => by cases hp), (fun p hp => by cases hp), (fun p hp => by cases hp), trivial⟩
theorem Su.nil {T : Nat → PV} {H : Ob} : Su [] T H := fun p hp => by cases hp

/-- What a part's run comes to where nothing is handed on at its end. -/
theorem SimC.ended {S Sf : List Pe} {c : MC} {c' : SC} {T : Nat → PV} {H : Ob} {n : Nat} {e : Ex} {s1 : St} (ih : ∀ e s1, Y E c' ⟨T, H, n⟩ = some (e, s1) → SimC E D S Sf c T H n e s1) (h : Y E (endNeeds Sf c') ⟨T, H, n⟩ = some (e, s1)) :
    (∀ p ∈ S, Ok T H p) ∧ ∀ T', Sim D S T T' H → ∃ T1', X E c ⟨T', H, n⟩ = some (e, ⟨T1', s1.H, s1.next⟩) ∧ RelE D [] s1.T T1' s1.H e := by
  obtain ⟨h1, h2⟩ := endNeeds_run h
  obtain ⟨g1, g2⟩ := ih e s1 h1
  obtain ⟨g3, g4⟩ := g2 (fun he => needs_all (g1 he).1 (g1 he).2 (h2 he))
  refine ⟨g3, fun T' hS => ?_⟩
  obtain ⟨T1', k1, k2⟩ := g4 T' hS
  exact ⟨T1', k1, k2.nil⟩

theorem tr_ok : ∀ {c : MC} {S Sf : List Pe} {c' : SC} {T : Nat → PV} {H : Ob} {n : Nat} {e : Ex} {s1 : St}, tr D S c = some (c', Sf) → Inv D S → Su S T H → Y E c' ⟨T, H, n⟩ = some (e, s1) → SimC E D S Sf c T H n e s1
  | .skip, S, Sf, c', T, H, n, e, s1, hc, hI, hsu, h => by
    simp only [tr] at hc
    injection hc with hc
    injection hc with h1 h2
    subst h1; subst h2
    simp only [Y] at h
    injection h with h
    injection h with h1 h2
    subst h1; subst h2
    exact ⟨fun _ => ⟨hI, hsu⟩, fun hok => ⟨hok rfl, fun T' hS => ⟨T', rfl, hS⟩⟩⟩
  | .exit i, S, Sf, c', T, H, n, e, s1, hc, hI, hsu, h => by
    simp only [tr] at hc
    injection hc with hc
    injection hc with h1 h2
    subst h1; subst h2
    obtain ⟨g1, g2⟩ := withNeeds_run h
    simp only [Y] at g1
    injection g1 with g1
    injection g1 with h1 h2
    subst h1; subst h2
    exact ⟨(fun h => by cases h), fun _ => ⟨needs_all hI hsu g2, fun T' hS => ⟨T', rfl, hS.out⟩⟩⟩
  | .ret, S, Sf, c', T, H, n, e, s1, hc, hI, hsu, h => by
    simp only [tr] at hc
    injection hc with hc
    injection hc with h1 h2
    subst h1; subst h2
    obtain ⟨g1, g2⟩ := withNeeds_run h
    simp only [Y] at g1
    injection g1 with g1
    injection g1 with h1 h2
    subst h1; subst h2
    exact ⟨(fun h => by cases h), fun _ => ⟨needs_all hI hsu g2, fun T' hS => ⟨T', rfl, hS.out⟩⟩⟩
  | .reg ops draw, S, Sf, c', T, H, n, e, s1, hc, hI, hsu, h => by
    simp only [tr] at hc
    obtain ⟨⟨l, Sl⟩, h1, hc⟩ := bnd_eq_some.1 hc
    injection hc with hc
    injection hc with e1 e2
    subst e1; subst e2
    simp only at h h1 ⊢
    simp only [Y] at h
    rw [ticks_ok, Nat.add_zero] at h
    have h' : sts E draw (l ++ []) T H n = some (e, s1) := by rw [List.append_nil]; exact h
    obtain ⟨g1, g2⟩ := trL_ok hI hsu h1 h'
    rcases g2 with ⟨T1, H1, n1, k1, k2, k3⟩ | ⟨hdr, v, Tp, Hp, np, k1, k2, k3⟩
    · simp only [sts] at k1
      injection k1 with k1
      injection k1 with e1 e2
      subst e1; subst e2
      refine ⟨fun _ => ⟨?_, k2⟩, fun hok => ?_⟩
      · rcases g1 with ⟨v, Tp, Hp, np, e3⟩ | g1
        · injection e3 with e3; cases e3
        · exact g1
      · obtain ⟨k4, k5⟩ := k3 (hok rfl)
        refine ⟨k4, fun T' hS => ?_⟩
        obtain ⟨T1', q1, q2⟩ := k5 T' hS
        exact ⟨T1', q1, q2⟩
    · injection k1 with e1 e2
      subst e1; subst e2
      refine ⟨(fun h => by cases h), fun _ => ⟨k2, fun T' hS => ?_⟩⟩
      obtain ⟨Tp', q1⟩ := k3 T' hS
      exact ⟨Tp', q1, trivial⟩
  | .regD ops chk pre, S, Sf, c', T, H, n, e, s1, hc, hI, hsu, h => by
    simp only [tr] at hc
    split at hc
    · rename_i hsl3
      obtain ⟨hsl, hpre, hS0⟩ := hsl3
      have hS0 : S = [] := by simpa using hS0
      subst hS0
      obtain ⟨⟨l, Sl⟩, h1, hc⟩ := bnd_eq_some.1 hc
      injection hc with hc
      injection hc with e1 e2
      subst e1; subst e2
      simp only at h h1 ⊢
      simp only [Y] at h
      obtain ⟨⟨e2, s2⟩, h2, h3⟩ := bnd_eq_some.1 h
      cases e2 with
      | normal =>
        simp only at h3
        split at h3
        · rename_i hck
          injection h3 with h3
          injection h3 with e3 e4
          subst e3; subst e4
          rw [ticks_ok, Nat.add_zero] at h2
          have h' : sts E true (l ++ []) T (frz T pre H) n = some (.normal, s2) := by rw [List.append_nil]; exact h2
          obtain ⟨g1, g2⟩ := trL_ok Inv.nil Su.nil h1 h'
          rcases g2 with ⟨T1, H1, n1, k1, k2, k3⟩ | ⟨hdr, v, Tp, Hp, np, k1, k2, k3⟩
          · simp only [sts] at k1
            injection k1 with k1
            injection k1 with e1 e2
            subst e2
            refine ⟨fun _ => ⟨?_, k2⟩, fun hok => ?_⟩
            · rcases g1 with ⟨v, Tp, Hp, np, e3⟩ | g1
              · injection e3 with e3; cases e3
              · exact g1
            · obtain ⟨k4, k5⟩ := k3 (hok rfl)
              refine ⟨(fun p hp => by cases hp), fun T' hS => ?_⟩
              obtain ⟨T1', q1, q2⟩ := k5 T' hS.nil
              refine ⟨T1', ?_, q2⟩
              have hfz : frz T' pre H = frz T pre H := by
                have : ∀ (l : List Nat) (H : Ob), (∀ x ∈ l, T' x = T x) → frz T' l H = frz T l H := by
                  intro l
                  induction l with
                  | nil => intro H _; rfl
                  | cons x r ih =>
                    intro H hx
                    simp only [frz]
                    rw [hx x (List.mem_cons_self ..)]
                    exact ih _ (fun y hy => hx y (List.mem_cons_of_mem _ hy))
                refine this pre H (fun x hx => hS.out x ?_)
                have := List.all_eq_true.1 hpre x hx
                simpa using this
              simp only [X, hfz, q1, bnd_some]
              have hsame : ∀ x ∈ chkSl chk, T1' x = T1 x := fun x hx => q2.out x (by
                have := List.all_eq_true.1 hsl x hx
                simpa using this)
              have : chk.all (heldX T1' n) = true := by
                rw [List.all_eq_true] at hck ⊢
                intro c hc
                have h0 := hck c hc
                have e1 : ∀ {l : List MX}, (∀ i ∈ l.flatMap sx, T1' i = T1 i) → (l.flatMap fun x => heads (valX T1' x)) = l.flatMap fun x => heads (valX T1 x) := by
                  intro l hl
                  induction l with
                  | nil => rfl
                  | cons x r ih =>
                    rw [List.flatMap_cons, List.flatMap_cons, ih (fun i hi => hl i (by rw [List.flatMap_cons]; exact List.mem_append_right _ hi)), valX_congr (fun i hi => hl i (by rw [List.flatMap_cons]; exact List.mem_append_left _ hi))]
                have ea := e1 (l := c.2.2.1) (fun i hi => hsame i (List.mem_flatMap.2 ⟨c, hc, List.mem_append_left _ hi⟩))
                have eb := e1 (l := c.2.2.2.2.2) (fun i hi => hsame i (List.mem_flatMap.2 ⟨c, hc, List.mem_append_right _ hi⟩))
                unfold heldX touchX at h0 ⊢
                rw [ea, eb]
                exact h0
              rw [if_pos this]
          · cases hdr
        · cases h3
      | _ => cases h3
    · cases hc
  | .orig ops, S, Sf, c', T, H, n, e, s1, hc, hI, hsu, h => by
    simp only [tr] at hc
    split at hc
    · rename_i hD
      injection hc with hc
      injection hc with h1 h2
      subst h1; subst h2
      have hD : D = [] := by simpa using hD
      subst hD
      have hS : S = [] := by
        cases S with
        | nil => rfl
        | cons p S => exact absurd (hI.mem p (List.mem_cons_self ..)) (by simp)
      subst hS
      refine ⟨fun _ => ⟨Inv.nil, Su.nil⟩, fun _ => ⟨(fun p hp => by cases hp), fun T' hS => ?_⟩⟩
      have eT : T' = T := funext fun i => hS.out i (by simp)
      subst eT
      refine ⟨s1.T, h, ?_⟩
      have hs : Sim ([] : List Nat) [] s1.T s1.T s1.H := ⟨fun _ _ => rfl, (fun p hp => by cases hp)⟩
      cases e with
      | normal => exact hs
      | panic v => trivial
      | _ => exact fun _ _ => rfl
    · cases hc
  | .seq a b, S, Sf, c', T, H, n, e, s1, hc, hI, hsu, h => by
    simp only [tr] at hc
    obtain ⟨⟨ca, Sa⟩, h1, hc⟩ := bnd_eq_some.1 hc
    obtain ⟨⟨cb, Sb⟩, h2, hc⟩ := bnd_eq_some.1 hc
    injection hc with hc
    injection hc with e1 e2
    subst e1; subst e2
    simp only at h2
    simp only [Y] at h
    obtain ⟨⟨ea, sa⟩, h3, h4⟩ := bnd_eq_some.1 h
    obtain ⟨g1, g2⟩ := tr_ok h1 hI hsu h3
    cases ea with
    | normal =>
      simp only at h4
      obtain ⟨Ta, Ha, na⟩ := sa
      obtain ⟨k1, k2⟩ := tr_ok h2 (g1 rfl).1 (g1 rfl).2 h4
      refine ⟨k1, fun hok => ?_⟩
      obtain ⟨k3, k4⟩ := k2 hok
      obtain ⟨g3, g4⟩ := g2 (fun _ => k3)
      refine ⟨g3, fun T' hS => ?_⟩
      obtain ⟨Ta', q1, q2⟩ := g4 T' hS
      obtain ⟨Tb', q3, q4⟩ := k4 Ta' q2
      refine ⟨Tb', ?_, q4⟩
      simp only [X, q1, bnd_some]
      exact q3
    | _ =>
      simp only at h4
      injection h4 with h4
      injection h4 with e1 e2
      subst e1; subst e2
      refine ⟨(fun h => by cases h), fun hok => ?_⟩
      obtain ⟨g3, g4⟩ := g2 (fun h => by cases h)
      refine ⟨g3, fun T' hS => ?_⟩
      obtain ⟨Ta', q1, q2⟩ := g4 T' hS
      refine ⟨Ta', ?_, q2⟩
      simp only [X, q1, bnd_some]
  | .cond x a b, S, Sf, c', T, H, n, e, s1, hc, hI, hsu, h => by
    simp only [tr] at hc
    obtain ⟨ec, h0, hc⟩ := bnd_eq_some.1 hc
    obtain ⟨⟨ca, Sa⟩, h1, hc⟩ := bnd_eq_some.1 hc
    obtain ⟨⟨cb, Sb⟩, h2, hc⟩ := bnd_eq_some.1 hc
    injection hc with hc
    injection hc with e1 e2
    subst e1; subst e2
    obtain ⟨g1, g2⟩ := withNeeds_run h
    simp only [Y] at g1
    obtain ⟨v, hv, g1⟩ := bnd_eq_some.1 g1
    have hg : gdOf D S none = some [] := rfl
    have hall : ∀ p ∈ S, Ok T H p := by
      refine needs_all hI hsu (fun p hp hcv hs => ?_)
      cases hcd : (p.gd == none && (sx x).contains p.d) with
      | false => exact g2 p (List.mem_filter.2 ⟨hp, by simp only [hcd]; rfl⟩) hcv hs
      | true =>
        simp only [Bool.and_eq_true] at hcd
        have := rdX_mem hI hp h0 hcd.2
        intro _
        exact ⟨v, by rw [← this]; exact hv⟩
    split at g1
    · rename_i t
      refine ⟨fun _ => ⟨Inv.nil, Su.nil⟩, fun _ => ⟨hall, fun T' hS => ?_⟩⟩
      have hx : valX T' x = .s (.bool t) := rdX_ok hI hS hg Holds.nil h0 hv
      simp only [X, hx]
      cases t with
      | true =>
        simp only [if_true] at g1 ⊢
        exact (SimC.ended (fun e s1 h => tr_ok h1 Inv.nil Su.nil h) g1).2 T' hS.nil
      | false =>
        simp only [Bool.false_eq_true, if_false] at g1 ⊢
        exact (SimC.ended (fun e s1 h => tr_ok h2 Inv.nil Su.nil h) g1).2 T' hS.nil
    · cases g1
  | .block id c, S, Sf, c', T, H, n, e, s1, hc, hI, hsu, h => by
    simp only [tr] at hc
    obtain ⟨⟨ca, Sa⟩, h1, hc⟩ := bnd_eq_some.1 hc
    injection hc with hc
    injection hc with e1 e2
    subst e1; subst e2
    simp only [Y] at h
    obtain ⟨⟨ea, sa⟩, h3, h4⟩ := bnd_eq_some.1 h
    obtain ⟨g3, g4⟩ := SimC.ended (fun e s1 h => tr_ok h1 hI hsu h) h3
    refine ⟨fun _ => ⟨Inv.nil, Su.nil⟩, fun _ => ⟨g3, fun T' hS => ?_⟩⟩
    obtain ⟨Ta', q1, q2⟩ := g4 T' hS
    refine ⟨Ta', ?_, ?_⟩
    · simp only [X, q1, bnd_some]
      cases ea with
      | exit i =>
        simp only at h4 ⊢
        injection h4 with h4
        injection h4 with e1 e2
        rw [e1, ← e2]
      | _ =>
        simp only at h4 ⊢
        injection h4 with h4
        injection h4 with e1 e2
        rw [← e1, ← e2]
    · cases ea with
      | exit i =>
        simp only at h4
        injection h4 with h4
        injection h4 with e1 e2
        rw [← e1, ← e2]
        split
        · exact ⟨q2, (fun p hp => by cases hp)⟩
        · exact q2
      | _ =>
        simp only at h4
        injection h4 with h4
        injection h4 with e1 e2
        rw [← e1, ← e2]
        exact q2
  | .loop c, S, Sf, c', T, H, n, e, s1, hc, hI, hsu, h => by
    simp only [tr] at hc
    obtain ⟨⟨ca, Sa⟩, h1, hc⟩ := bnd_eq_some.1 hc
    injection hc with hc
    injection hc with e1 e2
    subst e1; subst e2
    obtain ⟨g1, g2⟩ := withNeeds_run h
    simp only [Y] at g1
    obtain ⟨K, hK⟩ := lim_eq.1 g1
    have hb : ∀ {T T' : Nat → PV} {H : Ob} {n : Nat} {e : Ex} {s1 : St}, Y E (endNeeds Sa ca) ⟨T, H, n⟩ = some (e, s1) → (∀ i, D.contains i = false → T' i = T i) → ∃ T1', X E c ⟨T', H, n⟩ = some (e, ⟨T1', s1.H, s1.next⟩) ∧ RelE D [] s1.T T1' s1.H e := by
      intro T T' H n e s1 hy ho
      exact (SimC.ended (fun e s1 h => tr_ok h1 Inv.nil Su.nil h) hy).2 T' ⟨ho, (fun p hp => by cases hp)⟩
    have key : ∀ (k : Nat) (T T' : Nat → PV) (H : Ob) (n : Nat), loopN (Y E (endNeeds Sa ca)) k ⟨T, H, n⟩ = some (e, s1) → (∀ i, D.contains i = false → T' i = T i) → ∃ T1', loopN (X E c) k ⟨T', H, n⟩ = some (e, ⟨T1', s1.H, s1.next⟩) ∧ RelE D [] s1.T T1' s1.H e := by
      intro k
      induction k with
      | zero => intro T T' H n hl; simp [loopN] at hl
      | succ k ih =>
        intro T T' H n hl ho
        simp only [loopN] at hl ⊢
        obtain ⟨⟨eb, ⟨Tb, Hb, nb⟩⟩, h3, h4⟩ := bnd_eq_some.1 hl
        obtain ⟨Tb', q1, q2⟩ := hb h3 ho
        simp only at q1 q2
        simp only [q1, bnd_some]
        cases eb with
        | normal =>
          simp only at h4 ⊢
          exact ih Tb Tb' Hb nb h4 (Sim.out q2)
        | _ =>
          simp only at h4 ⊢
          injection h4 with h4
          injection h4 with e1 e2
          subst e1; subst e2
          exact ⟨Tb', rfl, q2⟩
    refine ⟨fun _ => ⟨Inv.nil, Su.nil⟩, fun _ => ⟨needs_all hI hsu g2, fun T' hS => ?_⟩⟩
    obtain ⟨T1', q1, q2⟩ := key K T T' H n (hK K (Nat.le_refl _)) hS.out
    refine ⟨T1', ?_, q2⟩
    simp only [X]
    exact lim_eq.2 ⟨K, fun m hm => loopN_mono q1 m hm⟩

theorem resM_congr {D : List Nat} {T T' : Nat → PV} {H : Ob} (ho : ∀ i, D.contains i = false → T' i = T i) : ∀ {rs : List MR}, rs.all (fun r => !D.contains (slotR r)) = true → resM T' H rs = resM T H rs
  | [], h => rfl
  | .t i :: r, h => by
    simp only [List.all_cons, Bool.and_eq_true, slotR] at h
    simp only [resM]
    rw [resM_congr ho h.2, ho i (by simpa using h.1)]
  | .cell agg sz i :: r, h => by
    simp only [List.all_cons, Bool.and_eq_true, slotR] at h
    simp only [resM]
    rw [resM_congr ho h.2, ho i (by simpa using h.1)]
/-- A function by its statements. -/
theorem sF_run {f : FuncId} {m : SF} {args : List PV} {H : Ob} {next : Nat} {x : Ex × St} {r : Out × Ob × Nat} (hf : sF E f D = some m) (hl : args.length ≤ m.nt) (hx : Y E m.c ⟨enter args, H, next⟩ = some x) (hr : finM m.rs x = some r) :
    ∃ m' x', cF E f = some m' ∧ args.length ≤ m'.nt ∧ X E m'.c ⟨enter args, H, next⟩ = some x' ∧ finM m'.rs x' = some r := by
  unfold sF at hf
  obtain ⟨m', h1, hf⟩ := bnd_eq_some.1 hf
  unfold trF at hf
  split at hf
  · rename_i hrs
    obtain ⟨⟨c', Sf⟩, h2, hf⟩ := bnd_eq_some.1 hf
    injection hf with hf
    subst hf
    simp only at hl hx hr
    obtain ⟨e, s1⟩ := x
    obtain ⟨T1', q1, q2⟩ := (SimC.ended (fun e s1 h => tr_ok h2 Inv.nil Su.nil h) hx).2 (enter args) ⟨fun _ _ => rfl, (fun p hp => by cases hp)⟩
    refine ⟨m', (e, ⟨T1', s1.H, s1.next⟩), h1, hl, q1, ?_⟩
    rw [← hr]
    unfold finM
    cases e with
    | normal =>
      simp only
      rw [resM_congr (Sim.out q2) hrs]
    | ret =>
      simp only
      rw [resM_congr q2 hrs]
    | panic v => rfl
    | exit i => rfl
  · cases hf
theorem runS_of {f : FuncId} {m : SF} {args : List PV} {H : Ob} {next : Nat} {x : Ex × St} {r : Out × Ob × Nat} (hf : sF E f D = some m) (hl : args.length ≤ m.nt) (hx : Y E m.c ⟨enter args, H, next⟩ = some x) (hr : finM m.rs x = some r) :
    runL E f args H next = some r := by
  obtain ⟨m', x', h1, h2, h3, h4⟩ := sF_run hf hl hx hr
  exact runL_of h1 h2 h3 h4
theorem calS_of {f : FuncId} {m : SF} {args : List PV} {hs : List HObj} {x : Ex × St} {r : Out × Ob × Nat} {o : Out} {l : List HObj} (hf : sF E f D = some m) (hl : args.length ≤ m.nt) (hx : Y E m.c ⟨enter args, Ob.of hs, hs.length⟩ = some x) (hr : finM m.rs x = some r)
    (ho : ownOut hs.length r.2.1 r.1 = some o) (hb : ownObjs hs.length r.2.1 (firstO r.2.1 hs.length) = some l) : calL E f args hs = some (o, l) := by
  obtain ⟨m', x', h1, h2, h3, h4⟩ := sF_run hf hl hx hr
  exact calL_of h1 h2 h3 h4 ho hb
end
end Go.Vm
