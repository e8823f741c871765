/- One operation as statements. -/
import Derived.Test.YtfgkhgkgaedcmaaGreatVmGG
import Derived.ProofKit
import Derived.SizedLaws
section
set_option linter.unusedVariables false
set_option linter.unusedSimpArgs false
namespace Go.Vm

section
variable {E : Env} {D : List Nat}

theorem stepM_act {draw : Bool} {o : MOper} {T : Nat → PV} {H : Ob} {n : Nat} :
    stepM E (calL E) (runL E) draw o T H n = if wantedM T o.g then bnd (actV E draw o.op T H n) fun r => some (afterCall T o.d r) else some (.go (putT T o.d .undef) H (n + 1)) := by
  obtain ⟨d, g, op⟩ := o
  unfold stepM
  cases op with
  | call f args => rfl
  | callv f args =>
    simp only [actV]
    cases callee (valX T f) <;> rfl
  | panic x =>
    simp only [actV]
    cases valX T x with
    | s v => cases v <;> rfl
    | _ => rfl
  | _ =>
    simp only [actV]
    split
    · generalize mstep _ draw T H n = m
      cases m <;> rfl
    · rfl
theorem actV_congr {draw : Bool} {o : MOp} {q q2 : Nat → PV} {H : Ob} {n : Nat} (h : ∀ i ∈ slotsOf o, q2 i = q i) : actV E draw o q2 H n = actV E draw o q H n := by
  cases o with
  | call f args =>
    simp only [actV]
    rw [mapX_congr (fun i hi => h i (by simpa only [slotsOf] using hi))]
  | callv f args =>
    simp only [actV]
    rw [valX_congr (fun i hi => h i (by simp only [slotsOf, List.mem_append]; exact .inl hi)), mapX_congr (fun i hi => h i (by simp only [slotsOf, List.mem_append]; exact .inr hi))]
  | panic x =>
    simp only [actV]
    rw [valX_congr (fun i hi => h i (by simpa only [slotsOf] using hi))]
  | _ =>
    simp only [actV]
    rw [mstep_congr h]

theorem needs_run {draw : Bool} {rest : List St1} {T : Nat → PV} {H : Ob} {n : Nat} {r : Ex × St} : ∀ {L : List Pe}, sts E draw (needsOf L ++ rest) T H n = some r → (∀ p ∈ L, p.cv = none → p.sure = false → Ok T H p) ∧ sts E draw rest T H n = some r
  | [], h => ⟨(fun p hp => by cases hp), h⟩
  | p :: L, h => by
    unfold needsOf at h
    simp only [List.filter_cons] at h
    split at h
    · rename_i hc
      simp only [List.map_cons, List.cons_append, sts] at h
      obtain ⟨x, h1, h2⟩ := bnd_eq_some.1 h
      simp only [st1] at h1
      obtain ⟨b, h3, h4⟩ := bnd_eq_some.1 h1
      have key : Ok T H p ∧ x = .go T H n := by
        split at h4
        · obtain ⟨v, h5, h6⟩ := bnd_eq_some.1 h4
          injection h6 with h6
          exact ⟨fun _ => ⟨v, h5⟩, h6.symm⟩
        · rename_i hb
          injection h4 with h4
          exact ⟨fun hh => absurd ((evG_holds h3).2 hh) hb, h4.symm⟩
      rw [key.2] at h2
      obtain ⟨g1, g2⟩ := needs_run (L := L) h2
      refine ⟨fun q hq hcv hsu => ?_, g2⟩
      rcases List.mem_cons.1 hq with e | hq
      · rw [e]; exact key.1
      · exact g1 q hq hcv hsu
    · rename_i hc
      obtain ⟨g1, g2⟩ := needs_run (L := L) h
      refine ⟨fun q hq hcv hsu => ?_, g2⟩
      rcases List.mem_cons.1 hq with e | hq
      · subst e
        simp only [hcv, hsu, Option.isNone_none, Bool.not_false, Bool.true_and, Bool.not_eq_true', Bool.not_eq_false] at hc
        intro _
        cases he : q.e with
        | x m => exact ⟨_, rfl⟩
        | op o l => rw [he] at hc; simp [isX] at hc
        | pick c a b => rw [he] at hc; simp [isX] at hc
      · exact g1 q hq hcv hsu

theorem isPure_plain {o : MOp} (h : isPure o = true) : plainM o = true := by
  cases o <;> first | rfl | simp [isPure, kindM] at h

theorem wanted_ok {S : List Pe} {T T' : Nat → PV} {H : Ob} (hI : Inv D S) (hS : Sim D S T T' H) (hok : ∀ p ∈ S, Ok T H p) {G : Option (Nat × Bool)} {g : List (Xp × Bool)} (hg : gdOf D S G = some g) : (wantedM T' G = true ↔ Holds T H g) := by
  cases G with
  | none =>
    simp only [gdOf] at hg
    injection hg with hg
    subst hg
    exact ⟨fun _ => Holds.nil, fun _ => rfl⟩
  | some sw =>
    obtain ⟨s, w⟩ := sw
    have eqv : ∀ v : PV, ((match v with | .s (.bool b) => b == w | _ => false) = true ↔ v = .s (.bool w)) := by
      intro v
      cases v with
      | s v => cases v <;> simp
      | _ => simp
    have eqv' : (wantedM T' (some (s, w)) = true ↔ T' s = .s (.bool w)) := eqv (T' s)
    rw [eqv']
    simp only [gdOf] at hg
    split at hg
    · rename_i hD
      split at hg
      · rename_i q hq
        injection hg with hg
        subst hg
        obtain ⟨hq1, hq2⟩ := look1_mem hq
        rw [Holds.append, Holds.one]
        by_cases hh : Holds T H q.g
        · obtain ⟨v, hv⟩ := hok q hq1 hh
          have := (hS.ent q hq1).1 hh v hv
          rw [hq2] at this
          rw [this, hv]
          constructor
          · intro e; rw [e]; exact ⟨hh, rfl⟩
          · intro e; exact Option.some.inj e.2
        · have := (hS.ent q hq1).2 hh
          rw [hq2] at this
          rw [this]
          constructor
          · intro e; cases e
          · intro e; exact absurd e.1 hh
      · cases hg
    · rename_i hD
      injection hg with hg
      subst hg
      rw [Holds.one, hS.out s (by simpa using hD)]
      simp only [evX, valX]
      constructor
      · intro e; rw [e]
      · intro e; exact Option.some.inj e
/-- What the statement leaves alone. -/
theorem mentions_keep {d : Option Nat} {hp : Bool} {p : Pe} {T : Nat → PV} {H H1 : Ob} {v : PV} (hm : mentions d hp p = false) (hH : hp = false → H1 = H) : (Holds (putT T d v) H1 p.g ↔ Holds T H p.g) ∧ evX (putT T d v) H1 p.e = evX T H p.e := by
  unfold mentions at hm
  simp only [Bool.or_eq_false_iff] at hm
  have one : ∀ e : Xp, (men d e = false ∧ (hp && heapX e) = false) → evX (putT T d v) H1 e = evX T H e := by
    intro e he
    refine evX_keep (hp := hp) (fun x hx => ?_) (fun h => ?_) hH
    · subst hx
      exact he.1
    · have := he.2
      rw [h] at this
      simpa using this
  refine ⟨?_, one p.e hm.1⟩
  have hg : ∀ x ∈ p.g, evX (putT T d v) H1 x.1 = evX T H x.1 := by
    intro x hx
    have := hm.2
    rw [List.any_eq_false] at this
    have := this x hx
    simp only [Bool.or_eq_true, not_or, Bool.not_eq_true] at this
    exact one x.1 this
  unfold Holds
  constructor
  · intro h x hx; rw [← hg x hx]; exact h x hx
  · intro h x hx; rw [hg x hx]; exact h x hx
theorem mentions_ok {d : Option Nat} {hp : Bool} {p : Pe} {T : Nat → PV} {H H1 : Ob} {v : PV} (hm : mentions d hp p = false) (hH : hp = false → H1 = H) : (Ok (putT T d v) H1 p ↔ Ok T H p) := by
  obtain ⟨h1, h2⟩ := mentions_keep (T := T) (v := v) hm hH
  unfold Ok
  rw [h1, h2]
end
end Go.Vm
end
section
set_option linter.unusedVariables false
set_option linter.unusedSimpArgs false
namespace Go.Vm

section
variable {E : Env} {D : List Nat}

/-- What an operation's statements come to, against the operation itself. -/
def StepOk (E : Env) (draw : Bool) (D : List Nat) (S S1 : List Pe) (o : MOper) (rest : List St1) (T : Nat → PV) (H : Ob) (n : Nat) (r : Ex × St) : Prop :=
  (∃ T1 H1 n1, sts E draw rest T1 H1 n1 = some r ∧ Su S1 T1 H1 ∧ ((∀ p ∈ S1, Ok T1 H1 p) → (∀ p ∈ S, Ok T H p) ∧ ∀ T', Sim D S T T' H → ∃ T1', stepM E (calL E) (runL E) draw o T' H n = some (.go T1' H1 n1) ∧ Sim D S1 T1 T1' H1)) ∨
  (draw = false ∧ ∃ v Tp Hp np, r = (.panic v, ⟨Tp, Hp, np⟩) ∧ (∀ p ∈ S, Ok T H p) ∧ ∀ T', Sim D S T T' H → ∃ Tp', stepM E (calL E) (runL E) draw o T' H n = some (.panic v Tp' Hp np))

theorem putT_ne {T : Nat → PV} {d : Option Nat} {v : PV} {i : Nat} (h : ∀ x, d = some x → i ≠ x) : putT T d v i = T i := by
  cases d with
  | none => rfl
  | some x => exact if_neg (h x rfl)
theorem putT_both {T T' : Nat → PV} {d : Option Nat} {v : PV} {i : Nat} (h : T' i = T i) : putT T' d v i = putT T d v i := by
  cases d with
  | none => exact h
  | some x =>
    simp only [putT, upd]
    split
    · rfl
    · exact h
/-- Those that outlive a statement. -/
theorem Sim.kept {S S1 : List Pe} {T T' : Nat → PV} {H H1 : Ob} {d : Option Nat} {hp : Bool} {v : PV} (hI : Inv D S) (hS : Sim D S T T' H) (hd : ∀ x, d = some x → D.contains x = false) (hH : hp = false → H1 = H)
    (hsub : ∀ p' ∈ S1, ∃ p ∈ S, mentions d hp p = false ∧ Same p' p) : Sim D S1 (putT T d v) (putT T' d v) H1 where
  out := fun i hi => putT_both (hS.out i hi)
  ent := fun p' hp' => by
    obtain ⟨p, hpS, hm, hs⟩ := hsub p' hp'
    obtain ⟨h1, h2⟩ := mentions_keep (T := T) (H := H) (H1 := H1) (v := v) hm hH
    have hne : putT T' d v p'.d = T' p.d := by
      rw [hs.1]
      refine putT_ne (fun x hx e => ?_)
      have := hI.mem p hpS
      rw [e, hd x hx] at this
      cases this
    rw [hs.2.2.1, hs.2.2.2, h1, h2, hne]
    exact hS.ent p hpS

theorem pend_ok {draw : Bool} {S S1 : List Pe} {o : MOper} {l1 rest : List St1} {T : Nat → PV} {H : Ob} {n : Nat} {r : Ex × St} {d : Nat} (hI : Inv D S) (hsu : Su S T H) (ho : o.d = some d) (hD : D.contains d = true) (hp : isPure o.op = true)
    (h : (if (S.any fun p => p.d == d) then none else bnd (gdOf D S o.g) fun g => bnd (mkX D S o.g o.op) fun e =>
        some ([St1.tick 1], ⟨d, o.g, g, e, none, false⟩ :: S.map fun p => if p.cv.isNone && cvd S o.g o.op p then { p with cv := some d } else p)) = some (l1, S1))
    (hr : sts E draw (l1 ++ rest) T H n = some r) : Inv D S1 ∧ StepOk E draw D S S1 o rest T H n r := by
  split at h
  · cases h
  · rename_i hfresh
    obtain ⟨g, hg, h⟩ := bnd_eq_some.1 h
    obtain ⟨e, he, h⟩ := bnd_eq_some.1 h
    injection h with h
    injection h with h1 h2
    subst h1
    let f : Pe → Pe := fun p => if p.cv.isNone && cvd S o.g o.op p then { p with cv := some d } else p
    have hlk : Lk f := by
      intro p
      by_cases hc : (p.cv.isNone && cvd S o.g o.op p) = true
      · have : f p = { p with cv := some d } := if_pos hc
        rw [this]
        exact ⟨rfl, rfl, rfl, rfl⟩
      · have : f p = p := if_neg hc
        rw [this]
        exact ⟨rfl, rfl, rfl, rfl⟩
    have hsure : ∀ p, (f p).sure = p.sure := by
      intro p
      show (if p.cv.isNone && cvd S o.g o.op p then { p with cv := some d } else p).sure = p.sure
      split <;> rfl
    have hne : ∀ p ∈ S, p.d ≠ d := by
      intro p hp e
      apply hfresh
      exact List.any_eq_true.2 ⟨p, hp, by simp [e]⟩
    let new : Pe := ⟨d, o.g, g, e, none, false⟩
    have hS1 : S1 = new :: S.map f := h2.symm
    subst hS1
    have hlook : ∀ i, i ≠ d → look1 (new :: S.map f) i = (look1 S i).map f := by
      intro i hi
      have : (new.d == i) = false := by simp [new]; exact fun e => hi e.symm
      rw [← look1_map hlk]
      unfold look1
      simp only [List.find?_cons, this]
    have hgd : ∀ G g', gdOf D S G = some g' → gdOf D (new :: S.map f) G = some g' := by
      intro G g' hg'
      cases G with
      | none => exact hg'
      | some sw =>
        obtain ⟨s, w⟩ := sw
        simp only [gdOf] at hg' ⊢
        split at hg'
        · rename_i hDs
          rw [if_pos hDs]
          split at hg'
          · rename_i q hq
            obtain ⟨q1, q2⟩ := look1_mem hq
            rw [hlook s (by rw [← q2]; exact hne q q1), hq]
            simp only [Option.map_some, (hlk q).2.2.1, (hlk q).2.2.2]
            exact hg'
          · cases hg'
        · rename_i hDs
          rw [if_neg hDs]
          exact hg'
    have hinv : Inv D (new :: S.map f) := by
      refine ⟨fun p hp' => ?_, fun p hp' => ?_, fun p hp' => ?_, ⟨(fun k hk => by cases hk), ?_⟩⟩
      · rcases List.mem_cons.1 hp' with e1 | hp'
        · rw [e1]; exact hD
        · obtain ⟨q, hq, e1⟩ := List.mem_map.1 hp'
          rw [← e1, (hlk q).1]
          exact hI.mem q hq
      · rcases List.mem_cons.1 hp' with e1 | hp'
        · rw [e1]
          unfold look1
          simp
        · obtain ⟨q, hq, e1⟩ := List.mem_map.1 hp'
          rw [← e1, (hlk q).1, hlook q.d (hne q hq), hI.uniq q hq]
          rfl
      · rcases List.mem_cons.1 hp' with e1 | hp'
        · rw [e1]
          exact hgd _ _ hg
        · obtain ⟨q, hq, e1⟩ := List.mem_map.1 hp'
          rw [← e1, (hlk q).2.1, (hlk q).2.2.1]
          exact hgd _ _ (hI.gd q hq)
      · refine hI.cv.mapf hlk (fun q hq => by cases hq) (fun p hp' k hk => ?_)
        have hk : (if p.cv.isNone && cvd S o.g o.op p then { p with cv := some d } else p).cv = some k := hk
        split at hk
        · rename_i hc
          simp only [Bool.and_eq_true] at hc
          injection hk with hk
          exact .inr ⟨new, List.mem_cons_self .., hk, cvd_imp hI hg he hp' hc.2⟩
        · exact .inl hk
    refine ⟨hinv, .inl ⟨T, H, n + 1, ?_, fun p hp' hs => ?_, fun hok => ⟨fun p hp' => ?_, fun T' hS => ?_⟩⟩⟩
    · simpa only [List.cons_append, List.nil_append, sts, st1, bnd_some] using hr
    · rcases List.mem_cons.1 hp' with e1 | hp'
      · rw [e1] at hs; cases hs
      · obtain ⟨q, hq, e1⟩ := List.mem_map.1 hp'
        rw [← e1, hsure] at hs
        have := hsu q hq hs
        unfold Ok at this ⊢
        rw [← e1, (hlk q).2.2.1, (hlk q).2.2.2]
        exact this
    · have := hok (f p) (List.mem_cons_of_mem _ (List.mem_map.2 ⟨p, hp', rfl⟩))
      unfold Ok at this ⊢
      rw [(hlk p).2.2.1, (hlk p).2.2.2] at this
      exact this
    · have hokS : ∀ p ∈ S, Ok T H p := fun p hp' => by
        have := hok (f p) (List.mem_cons_of_mem _ (List.mem_map.2 ⟨p, hp', rfl⟩))
        unfold Ok at this ⊢
        rw [(hlk p).2.2.1, (hlk p).2.2.2] at this
        exact this
      have hw := wanted_ok hI hS hokS hg
      have hoknew := hok new (List.mem_cons_self ..)
      have simS : ∀ v : PV, (Holds T H g → ∀ u, evX T H e = some u → v = u) → (¬ Holds T H g → v = .undef) → Sim D (new :: S.map f) T (putT T' (some d) v) H := by
        intro v hv1 hv2
        refine ⟨fun i hi => ?_, fun p hp' => ?_⟩
        · rw [putT_ne (fun x hx e1 => by
            injection hx with hx
            rw [e1, ← hx, hD] at hi
            cases hi)]
          exact hS.out i hi
        · rcases List.mem_cons.1 hp' with e1 | hp'
          · subst e1
            have : putT T' (some d) v new.d = v := if_pos rfl
            rw [this]
            exact ⟨hv1, hv2⟩
          · obtain ⟨q, hq, e1⟩ := List.mem_map.1 hp'
            rw [← e1, (hlk q).1, (hlk q).2.2.1, (hlk q).2.2.2, putT_ne (fun x hx e2 => by
              injection hx with hx
              exact hne q hq (e2.trans hx.symm))]
            exact hS.ent q hq
      obtain ⟨od, og, oop⟩ := o
      simp only at ho hp he hg hw
      subst ho
      rw [stepM_plain (isPure_plain hp)]
      simp only
      by_cases hh : Holds T H g
      · rw [if_pos (hw.2 hh)]
        obtain ⟨v, hv⟩ := hoknew hh
        rw [mkX_ok hI hS hg hh hp he hv]
        exact ⟨_, rfl, simS v (fun _ u hu => by
          have hv' : evX T H e = some v := hv
          rw [hv'] at hu
          exact Option.some.inj hu) (fun hn => absurd hh hn)⟩
      · rw [if_neg (fun hw' => hh (hw.1 hw'))]
        exact ⟨_, rfl, simS .undef (fun hh' => absurd hh' hh) (fun _ => rfl)⟩
end
end Go.Vm
end
section
set_option linter.unusedVariables false
set_option linter.unusedSimpArgs false
namespace Go.Vm

section
variable {E : Env} {D : List Nat}

theorem sureAll_lk : Lk (fun p : Pe => { p with sure := true }) := fun p => ⟨rfl, rfl, rfl, rfl⟩
theorem sureIf_lk {P : Pe → Bool} : Lk (fun p : Pe => if P p = true then { p with sure := true } else p) := by
  intro p
  simp only
  split <;> exact ⟨rfl, rfl, rfl, rfl⟩
theorem Same.ok {T : Nat → PV} {H : Ob} {p q : Pe} (h : Same p q) : Ok T H p ↔ Ok T H q := by
  unfold Ok
  rw [h.2.2.1, h.2.2.2]
theorem kill_mem {d : Option Nat} {hp : Bool} {S : List Pe} {p : Pe} (h : p ∈ kill d hp S) : ∃ q ∈ S, mentions d hp q = false ∧ Same p q ∧ p.sure = q.sure := by
  rw [kill_eq] at h
  obtain ⟨q, hq, e⟩ := List.mem_map.1 h
  obtain ⟨h1, h2⟩ := List.mem_filter.1 hq
  refine ⟨q, h1, by simpa using h2, ?_, ?_⟩
  · rw [← e]; exact deadf_lk _ q
  · rw [← e]
    unfold deadf
    split
    · split <;> rfl
    · rfl
theorem kill_has {d : Option Nat} {hp : Bool} {S : List Pe} {q : Pe} (hq : q ∈ S) (hm : mentions d hp q = false) : ∃ p ∈ kill d hp S, Same p q := by
  rw [kill_eq]
  exact ⟨_, List.mem_map.2 ⟨q, List.mem_filter.2 ⟨hq, by simp [hm]⟩, rfl⟩, deadf_lk _ q⟩

theorem set_ok {draw : Bool} {S S1 : List Pe} {o : MOper} {l1 rest : List St1} {T : Nat → PV} {H : Ob} {n : Nat} {r : Ex × St} {d : Nat} (hI : Inv D S) (hsu : Su S T H) (ho : o.d = some d) (hD : D.contains d = false) (hp : isPure o.op = true) (hgn : o.g = none)
    (h : (bnd (mkX D S none o.op) fun e => some (needsOf ((S.filter (mentions (some d) false)).filter fun p => !cvd S none o.op p) ++ [St1.set d e, .tick 1], kill (some d) false (S.map fun p => if cvd S none o.op p then { p with sure := true } else p))) = some (l1, S1))
    (hr : sts E draw (l1 ++ rest) T H n = some r) : Inv D S1 ∧ StepOk E draw D S S1 o rest T H n r := by
  obtain ⟨e, he, h⟩ := bnd_eq_some.1 h
  injection h with h
  injection h with h1 h2
  subst h1
  subst h2
  have hg : gdOf D S none = some [] := rfl
  rw [List.append_assoc] at hr
  obtain ⟨hn1, hn2⟩ := needs_run hr
  simp only [List.cons_append, List.nil_append, sts, st1] at hn2
  obtain ⟨x, hx, hn2⟩ := bnd_eq_some.1 hn2
  obtain ⟨v, hv, hx⟩ := bnd_eq_some.1 hx
  injection hx with hx
  subst hx
  simp only [bnd_some] at hn2
  have hcov : ∀ p ∈ S, cvd S none o.op p = true → Ok T H p := by
    intro p hpS hc hh
    obtain ⟨_, k2⟩ := cvd_imp hI hg (d := d) he hpS hc T H hh
    exact k2 ⟨v, hv⟩
  have hdD : ∀ x, (some d : Option Nat) = some x → D.contains x = false := fun x hx => by injection hx with hx; rw [← hx]; exact hD
  have hsub : ∀ p ∈ kill (some d) false (S.map fun p => if cvd S none o.op p then { p with sure := true } else p), ∃ q ∈ S, mentions (some d) false q = false ∧ Same p q ∧ (p.sure = true → q.sure = true ∨ cvd S none o.op q = true) := by
    intro p hp'
    obtain ⟨q', hq', hm, hs, hsu'⟩ := kill_mem hp'
    obtain ⟨q, hq, e1⟩ := List.mem_map.1 hq'
    have hlk := sureIf_lk (P := cvd S none o.op) q
    simp only at hlk e1
    rw [e1] at hlk
    have hm' : mentions (some d) false q = mentions (some d) false q' := by unfold mentions; rw [hlk.2.2.1, hlk.2.2.2]
    refine ⟨q, hq, by rw [hm']; exact hm, ⟨hs.1.trans hlk.1, hs.2.1.trans hlk.2.1, hs.2.2.1.trans hlk.2.2.1, hs.2.2.2.trans hlk.2.2.2⟩, fun hsp => ?_⟩
    rw [hsu'] at hsp
    rw [← e1] at hsp
    split at hsp
    · rename_i hc; exact .inr hc
    · exact .inl hsp
  have hinv : Inv D (kill (some d) false (S.map fun p => if cvd S none o.op p then { p with sure := true } else p)) := (hI.map sureIf_lk (fun p hp k hk => by
    split at hk <;> exact hk)).kill
  have hne : False = (false = true) := by simp
  refine ⟨hinv, .inl ⟨upd T d v, H, n + 1, hn2, fun p hp' hs => ?_, fun hok => ⟨?_, fun T' hS => ?_⟩⟩⟩
  · obtain ⟨q, hq, hm, hsm, hc⟩ := hsub p hp'
    have : Ok T H q := by
      rcases hc hs with h1 | h1
      · exact hsu q hq h1
      · exact hcov q hq h1
    have := (mentions_ok (T := T) (H := H) (H1 := H) (v := v) hm (fun _ => rfl)).2 this
    exact hsm.ok.2 this
  · refine Cv.ok hI.cv (fun q hq => by cases hq) (fun p hpS hcv => ?_)
    cases hsr : p.sure with
    | true => exact hsu p hpS hsr
    | false =>
      cases hc : cvd S none o.op p with
      | true => exact hcov p hpS hc
      | false =>
        cases hm : mentions (some d) false p with
        | true => exact hn1 p (List.mem_filter.2 ⟨List.mem_filter.2 ⟨hpS, hm⟩, by simp [hc]⟩) hcv hsr
        | false =>
          have hmem : p ∈ S.map fun p => if cvd S none o.op p then { p with sure := true } else p := List.mem_map.2 ⟨p, hpS, by simp [hc]⟩
          obtain ⟨p', hp', hsm⟩ := kill_has (d := some d) (hp := false) hmem hm
          have := hsm.ok.1 (hok p' hp')
          exact (mentions_ok (T := T) (H := H) (H1 := H) (v := v) hm (fun _ => rfl)).1 this
  · refine ⟨putT T' (some d) v, ?_, Sim.kept (hp := false) (v := v) hI hS hdD (fun _ => rfl) (fun p hp' => ?_)⟩
    · obtain ⟨od, og, oop⟩ := o
      simp only at ho hp he hgn
      subst ho; subst hgn
      rw [stepM_plain (isPure_plain hp)]
      simp only [wantedM, if_true]
      rw [mkX_ok hI hS hg Holds.nil hp he hv]
      rfl
    · obtain ⟨q, hq, hm, hsm, _⟩ := hsub p hp'
      exact ⟨q, hq, hm, hsm⟩

theorem act_ok {draw : Bool} {S S1 : List Pe} {o : MOper} {l1 rest : List St1} {T : Nat → PV} {H : Ob} {n : Nat} {r : Ex × St} (hI : Inv D S) (hsu : Su S T H) (hdD : ∀ x, o.d = some x → D.contains x = false) (hp : ∀ c a b, o.op ≠ .pick c a b)
    (h : (bnd (gdOf D S o.g) fun g => bnd (rdL D S o.g (slotsOf o.op)) fun l => some (needsOf (S.filter fun p => !cvd S o.g o.op p) ++ [St1.act o.d g o.op l], (kill o.d true S).map fun p => { p with sure := true })) = some (l1, S1))
    (hr : sts E draw (l1 ++ rest) T H n = some r) : Inv D S1 ∧ StepOk E draw D S S1 o rest T H n r := by
  obtain ⟨g, hg, h⟩ := bnd_eq_some.1 h
  obtain ⟨l, hl, h⟩ := bnd_eq_some.1 h
  injection h with h
  injection h with h1 h2
  subst h1
  subst h2
  rw [List.append_assoc] at hr
  obtain ⟨hn1, hn2⟩ := needs_run hr
  simp only [List.cons_append, List.nil_append, sts, st1] at hn2
  obtain ⟨x, hx, hn2⟩ := bnd_eq_some.1 hn2
  obtain ⟨b, hb, hx⟩ := bnd_eq_some.1 hx
  have hinv : Inv D ((kill o.d true S).map fun p => { p with sure := true }) := (hI.kill).map sureAll_lk (fun p _ k hk => hk)
  have hsub : ∀ p ∈ (kill o.d true S).map (fun p => { p with sure := true }), ∃ q ∈ S, mentions o.d true q = false ∧ Same p q := by
    intro p hp'
    obtain ⟨q', hq', e1⟩ := List.mem_map.1 hp'
    obtain ⟨q, hq, hm, hs, _⟩ := kill_mem hq'
    refine ⟨q, hq, hm, ?_⟩
    rw [← e1]
    exact hs
  have hcvd : ∀ p, cvd S o.g o.op p = true → p.gd = o.g ∧ (slotsOf o.op).contains p.d = true := by
    intro p hc
    cases hop : o.op with
    | pick c a b => exact absurd hop (hp c a b)
    | _ =>
      rw [hop] at hc
      simpa only [cvd, Bool.and_eq_true, beq_iff_eq] using hc
  have hall : (b = true → ∃ q, evS T H l = some q) → ∀ p ∈ S, Ok T H p := by
    intro hq
    refine Cv.ok hI.cv (fun q hq => by cases hq) (fun p hpS hcv => ?_)
    cases hsr : p.sure with
    | true => exact hsu p hpS hsr
    | false =>
      cases hc : cvd S o.g o.op p with
      | false => exact hn1 p (List.mem_filter.2 ⟨hpS, by simp [hc]⟩) hcv hsr
      | true =>
        obtain ⟨c1, c2⟩ := hcvd p hc
        intro hh
        have e1 := hI.gd p hpS
        rw [c1, hg] at e1
        injection e1 with e1
        rw [← e1] at hh
        obtain ⟨q, hq⟩ := hq ((evG_holds hb).2 hh)
        exact evS_mem hq (rdL_read hI hpS hl c2)
  have hsuOf : ∀ {v : PV} {H1 : Ob}, (∀ p ∈ S, Ok T H p) → Su ((kill o.d true S).map fun p => { p with sure := true }) (putT T o.d v) H1 := by
    intro v H1 hok p hp' _
    obtain ⟨q, hq, hm, hs⟩ := hsub p hp'
    exact hs.ok.2 ((mentions_ok (T := T) (H := H) (H1 := H1) (v := v) hm (fun h => by cases h)).2 (hok q hq))
  split at hx
  · rename_i hbt
    obtain ⟨q, hq, hx⟩ := bnd_eq_some.1 hx
    obtain ⟨r', hr', hx⟩ := bnd_eq_some.1 hx
    injection hx with hx
    have hok := hall (fun _ => ⟨q, hq⟩)
    have hh : Holds T H g := (evG_holds hb).1 hbt
    have hstep : ∀ T', Sim D S T T' H → stepM E (calL E) (runL E) draw o T' H n = some (afterCall T' o.d r') := by
      intro T' hS
      rw [stepM_act, if_pos ((wanted_ok hI hS hok hg).2 hh), actV_congr (rdL_ok hI hS hg hh hl hq), hr', bnd_some]
    obtain ⟨out, H1, n1⟩ := r'
    cases out with
    | ret v =>
      simp only [afterCall] at hx
      subst hx
      simp only at hn2
      refine ⟨hinv, .inl ⟨_, _, _, hn2, hsuOf hok, fun _ => ⟨hok, fun T' hS => ⟨putT T' o.d v, ?_, Sim.kept (hp := true) (v := v) hI hS hdD (fun h => by cases h) (hsub)⟩⟩⟩⟩
      rw [hstep T' hS]
      rfl
    | panic v =>
      simp only [afterCall] at hx
      subst hx
      simp only at hn2
      split at hn2
      · cases hn2
      · rename_i hdr
        injection hn2 with hn2
        refine ⟨hinv, .inr ⟨by simpa using hdr, v, T, H1, n1, hn2.symm, hok, fun T' hS => ⟨T', ?_⟩⟩⟩
        rw [hstep T' hS]
        rfl
  · rename_i hbf
    injection hx with hx
    subst hx
    have hok := hall (fun h => absurd h hbf)
    have hh : ¬ Holds T H g := fun h => hbf ((evG_holds hb).2 h)
    refine ⟨hinv, .inl ⟨_, _, _, hn2, hsuOf hok, fun _ => ⟨hok, fun T' hS => ⟨putT T' o.d .undef, ?_, Sim.kept (hp := true) (v := .undef) hI hS hdD (fun _ => rfl) (hsub)⟩⟩⟩⟩
    rw [stepM_act, if_neg (fun h => hh ((wanted_ok hI hS hok hg).1 h))]

theorem tr1_ok {draw : Bool} {S S1 : List Pe} {o : MOper} {l1 rest : List St1} {T : Nat → PV} {H : Ob} {n : Nat} {r : Ex × St} (hI : Inv D S) (hsu : Su S T H) (h : tr1 D S o = some (l1, S1)) (hr : sts E draw (l1 ++ rest) T H n = some r) : Inv D S1 ∧ StepOk E draw D S S1 o rest T H n r := by
  unfold tr1 at h
  simp only at h
  split at h
  · rename_i hp
    split at h
    · rename_i d ho hpe
      rw [ho] at hpe
      exact pend_ok hI hsu ho hpe hp h hr
    · rename_i d ho hpe
      rw [ho] at hpe
      split at h
      · rename_i hgn
        exact set_ok hI hsu ho hpe hp hgn h hr
      · rename_i gd hgs
        split at h
        · cases h
        · rename_i hnp
          exact act_ok hI hsu (fun x hx => by rw [ho] at hx; injection hx with hx; rw [← hx]; exact hpe) hnp h hr
    · cases h
  · rename_i hp
    cases hod : o.d with
    | none =>
      rw [hod] at h
      simp only [Bool.false_eq_true, if_false] at h
      rw [← hod] at h
      exact act_ok hI hsu (fun x hx => by rw [hod] at hx; cases hx) (fun c a b e => hp (by rw [e]; rfl)) h hr
    | some x =>
      rw [hod] at h
      simp only at h
      by_cases hpe : D.contains x = true
      · rw [if_pos hpe] at h
        cases h
      · rw [if_neg hpe] at h
        rw [← hod] at h
        exact act_ok hI hsu (fun y hy => by rw [hod] at hy; injection hy with hy; rw [← hy]; simpa using hpe) (fun c a b e => hp (by rw [e]; rfl)) h hr

def RunOf (E : Env) (draw : Bool) (D : List Nat) (S Sf : List Pe) (os : List MOper) (rest : List St1) (T : Nat → PV) (H : Ob) (n : Nat) (r : Ex × St) : Prop :=
  (∃ T1 H1 n1, sts E draw rest T1 H1 n1 = some r ∧ Su Sf T1 H1 ∧ ((∀ p ∈ Sf, Ok T1 H1 p) → (∀ p ∈ S, Ok T H p) ∧ ∀ T', Sim D S T T' H → ∃ T1', opsM E (calL E) (runL E) draw os T' H n = some (.normal, ⟨T1', H1, n1⟩) ∧ Sim D Sf T1 T1' H1)) ∨
  (draw = false ∧ ∃ v Tp Hp np, r = (.panic v, ⟨Tp, Hp, np⟩) ∧ (∀ p ∈ S, Ok T H p) ∧ ∀ T', Sim D S T T' H → ∃ Tp', opsM E (calL E) (runL E) draw os T' H n = some (.panic v, ⟨Tp', Hp, np⟩))
theorem trL_inv {S Sf : List Pe} : ∀ {os : List MOper} {l : List St1}, True → True := fun _ => trivial
theorem trL_ok {draw : Bool} {rest : List St1} {r : Ex × St} : ∀ {os : List MOper} {S Sf : List Pe} {l : List St1} {T : Nat → PV} {H : Ob} {n : Nat}, Inv D S → Su S T H → trL D S os = some (l, Sf) → sts E draw (l ++ rest) T H n = some r →
    ((∃ v Tp Hp np, r = (.panic v, ⟨Tp, Hp, np⟩)) ∨ Inv D Sf) ∧ RunOf E draw D S Sf os rest T H n r
  | [], S, Sf, l, T, H, n, hI, hsu, h, hr => by
    simp only [trL] at h
    injection h with h
    injection h with h1 h2
    subst h1; subst h2
    exact ⟨.inr hI, .inl ⟨T, H, n, hr, hsu, fun hok => ⟨hok, fun T' hS => ⟨T', rfl, hS⟩⟩⟩⟩
  | o :: os, S, Sf, l, T, H, n, hI, hsu, h, hr => by
    simp only [trL] at h
    obtain ⟨⟨l1, S1⟩, h1, h⟩ := bnd_eq_some.1 h
    obtain ⟨⟨l2, S2⟩, h2, h⟩ := bnd_eq_some.1 h
    injection h with h
    injection h with e1 e2
    subst e1; subst e2
    simp only at h2 hr
    rw [List.append_assoc] at hr
    obtain ⟨hI1, hst⟩ := tr1_ok hI hsu h1 hr
    rcases hst with ⟨T1, H1, n1, hr1, hsu1, hk⟩ | ⟨hdr, v, Tp, Hp, np, e3, hok, hk⟩
    · obtain ⟨hIf, hrun⟩ := trL_ok hI1 hsu1 h2 hr1
      refine ⟨hIf, ?_⟩
      rcases hrun with ⟨T2, H2, n2, hr2, hsu2, hk2⟩ | ⟨hdr, v, Tp, Hp, np, e3, hok, hk2⟩
      · refine .inl ⟨T2, H2, n2, hr2, hsu2, fun hokf => ?_⟩
        obtain ⟨ok1, sim1⟩ := hk2 hokf
        obtain ⟨ok0, sim0⟩ := hk ok1
        refine ⟨ok0, fun T' hS => ?_⟩
        obtain ⟨T1', g1, g2⟩ := sim0 T' hS
        obtain ⟨T2', g3, g4⟩ := sim1 T1' g2
        refine ⟨T2', ?_, g4⟩
        simp only [opsM, g1, bnd_some]
        exact g3
      · obtain ⟨ok0, sim0⟩ := hk hok
        refine .inr ⟨hdr, v, Tp, Hp, np, e3, ok0, fun T' hS => ?_⟩
        obtain ⟨T1', g1, g2⟩ := sim0 T' hS
        obtain ⟨Tp', g3⟩ := hk2 T1' g2
        refine ⟨Tp', ?_⟩
        simp only [opsM, g1, bnd_some]
        exact g3
    · refine ⟨.inl ⟨v, Tp, Hp, np, e3⟩, .inr ⟨hdr, v, Tp, Hp, np, e3, hok, fun T' hS => ?_⟩⟩
      obtain ⟨Tp', g1⟩ := hk T' hS
      refine ⟨Tp', ?_⟩
      subst hdr
      simp only [opsM, g1, bnd_some]
      rfl
theorem ticks_ok {draw : Bool} : ∀ (l : List St1) (m : Nat) (T : Nat → PV) (H : Ob) (n : Nat), sts E draw (ticks m l) T H n = sts E draw l T H (n + m)
  | [], 0, T, H, n => rfl
  | [], m + 1, T, H, n => by simp only [ticks, sts, st1, bnd_some]
  | .tick k :: r, m, T, H, n => by
    simp only [ticks, sts, st1, bnd_some]
    rw [ticks_ok r (m + k) T H n, Nat.add_assoc]
  | .set d e :: r, 0, T, H, n => by
    simp only [ticks, sts, st1]
    cases evX T H e with
    | none => rfl
    | some v => simp only [bnd_some]; exact ticks_ok r 0 _ _ _
  | .need g e :: r, 0, T, H, n => by
    simp only [ticks, sts, st1]
    cases evG T H g with
    | none => rfl
    | some b =>
      simp only [bnd_some]
      split
      · cases evX T H e with
        | none => rfl
        | some v => simp only [bnd_some]; exact ticks_ok r 0 _ _ _
      · simp only [bnd_some]; exact ticks_ok r 0 _ _ _
  | .act d g o l :: r, 0, T, H, n => by
    simp only [ticks, sts]
    cases st1 E draw (.act d g o l) T H n with
    | none => rfl
    | some x =>
      simp only [bnd_some, Nat.add_zero]
      cases x with
      | go T1 H1 n1 => simp only; exact ticks_ok r 0 _ _ _
      | panic v T1 H1 n1 => rfl
  | .set d e :: r, m + 1, T, H, n => by
    simp only [ticks, sts, st1]
    cases evX T H e with
    | none => rfl
    | some v => simp only [bnd_some]; exact ticks_ok r (m + 1) _ _ _
  | .need g e :: r, m + 1, T, H, n => by
    simp only [ticks, sts, st1]
    cases evG T H g with
    | none => rfl
    | some b =>
      simp only [bnd_some]
      split
      · cases evX T H e with
        | none => rfl
        | some v => simp only [bnd_some]; exact ticks_ok r (m + 1) _ _ _
      · simp only [bnd_some]; exact ticks_ok r (m + 1) _ _ _
  | .act d g o l :: r, m + 1, T, H, n => by
    simp only [ticks, sts]
    simp only [show st1 E draw (.tick (m + 1)) T H n = some (.go T H (n + (m + 1))) from rfl, bnd_some]
    cases st1 E draw (.act d g o l) T H (n + (m + 1)) with
    | none => rfl
    | some x =>
      simp only [bnd_some]
      cases x with
      | go T1 H1 n1 => simp only; exact ticks_ok r 0 _ _ _
      | panic v T1 H1 n1 => rfl
end
end Go.Vm
end
section
set_option linter.unusedVariables false
set_option linter.unusedSimpArgs false
namespace Go.Vm

section
variable {E : Env} {D : List Nat}

def RelE (D : List Nat) (Sf : List Pe) (T1 T1' : Nat → PV) (H1 : Ob) : Ex → Prop
  | .normal => Sim D Sf T1 T1' H1
  | .panic _ => True
  | _ => ∀ i, D.contains i = false → T1' i = T1 i
theorem Sim.nil {S : List Pe} {T T' : Nat → PV} {H H1 : Ob} (h : Sim D S T T' H) : Sim D [] T T' H1 := ⟨h.out, (fun p hp => by cases hp)⟩
theorem RelE.nil {S : List Pe} {T T' : Nat → PV} {H : Ob} {e : Ex} (h : RelE D S T T' H e) : RelE D [] T T' H e := by
  cases e with
  | normal => exact Sim.nil h
  | _ => exact h
theorem RelE.out {S : List Pe} {T T' : Nat → PV} {H : Ob} {e : Ex} (h : RelE D S T T' H e) (hp : ∀ v, e ≠ .panic v) : ∀ i, D.contains i = false → T' i = T i := by
  cases e with
  | normal => exact Sim.out h
  | panic v => exact absurd rfl (hp v)
  | _ => exact h
def SimC (E : Env) (D : List Nat) (S Sf : List Pe) (c : MC) (T : Nat → PV) (H : Ob) (n : Nat) (e : Ex) (s1 : St) : Prop :=
  (e = .normal → Inv D Sf ∧ Su Sf s1.T s1.H) ∧ ((e = .normal → ∀ p ∈ Sf, Ok s1.T s1.H p) → (∀ p ∈ S, Ok T H p) ∧ ∀ T', Sim D S T T' H → ∃ T1', X E c ⟨T', H, n⟩ = some (e, ⟨T1', s1.H, s1.next⟩) ∧ RelE D Sf s1.T T1' s1.H e)

theorem needs_all {S : List Pe} {T : Nat → PV} {H : Ob} (hI : Inv D S) (hsu : Su S T H) (h : ∀ p ∈ S, p.cv = none → p.sure = false → Ok T H p) : ∀ p ∈ S, Ok T H p :=
  Cv.ok hI.cv (fun q hq => by cases hq) (fun p hp hcv => by
    cases hs : p.sure with
    | true => exact hsu p hp hs
    | false => exact h p hp hcv hs)
theorem needsOf_nil {S : List Pe} (h : needsOf S = []) (T : Nat → PV) (H : Ob) : ∀ p ∈ S, p.cv = none → p.sure = false → Ok T H p := by
  intro p hp hcv hs
  unfold needsOf at h
  rw [List.map_eq_nil_iff, List.filter_eq_nil_iff] at h
  have := h p hp
  simp only [hcv, hs, Option.isNone_none, Bool.not_false, Bool.true_and, Bool.not_eq_true', Bool.not_eq_false] at this
  intro _
  cases he : p.e with
  | x m => exact ⟨_, rfl⟩
  | op o l => rw [he] at this; simp [isX] at this
  | pick c a b => rw [he] at this; simp [isX] at this
theorem reg_needs {S : List Pe} {s : St} {r : Ex × St} (h : Y E (.reg (needsOf S) false) s = some r) : r = (.normal, s) ∧ ∀ p ∈ S, p.cv = none → p.sure = false → Ok s.T s.H p := by
  simp only [Y] at h
  have h' : sts E false (needsOf S ++ []) s.T s.H s.next = some r := by rw [List.append_nil]; exact h
  obtain ⟨g1, g2⟩ := needs_run h'
  simp only [sts] at g2
  injection g2 with g2
  exact ⟨g2.symm, g1⟩
theorem endNeeds_run {S : List Pe} {c : SC} {s s1 : St} {e : Ex} (h : Y E (endNeeds S c) s = some (e, s1)) : Y E c s = some (e, s1) ∧ (e = .normal → ∀ p ∈ S, p.cv = none → p.sure = false → Ok s1.T s1.H p) := by
  unfold endNeeds at h
  split at h
  · rename_i hn
    exact ⟨h, fun _ => needsOf_nil hn _ _⟩
  · simp only [Y] at h
    obtain ⟨⟨e1, s2⟩, h1, h2⟩ := bnd_eq_some.1 h
    cases e1 with
    | normal =>
      simp only at h2
      obtain ⟨g1, g2⟩ := reg_needs (E := E) (S := S) (s := s2) (r := (e, s1)) (by simp only [Y]; exact h2)
      injection g1 with g1 g3
      subst g1; subst g3
      exact ⟨h1, fun _ => g2⟩
    | _ =>
      simp only at h2
      injection h2 with h2
      injection h2 with h2 h3
      subst h2; subst h3
      exact ⟨h1, fun h => by cases h⟩
theorem withNeeds_run {S : List Pe} {c : SC} {s : St} {r : Ex × St} (h : Y E (withNeeds S c) s = some r) : Y E c s = some r ∧ ∀ p ∈ S, p.cv = none → p.sure = false → Ok s.T s.H p := by
  unfold withNeeds at h
  split at h
  · rename_i hn
    exact ⟨h, needsOf_nil hn _ _⟩
  · simp only [Y] at h
    obtain ⟨x, h1, h2⟩ := bnd_eq_some.1 h
    obtain ⟨g1, g2⟩ := reg_needs (E := E) (S := S) (s := s) (r := x) (by simp only [Y]; exact h1)
    subst g1
    simp only at h2
    exact ⟨h2, g2⟩
theorem Inv.nil : Inv D [] := ⟨(fun p hp => by cases hp), (fun p hp => by cases hp), (fun p hp => by cases hp), trivial⟩
theorem Su.nil {T : Nat → PV} {H : Ob} : Su [] T H := fun p hp => by cases hp

/-- What a part's run comes to where nothing is handed on at its end. -/
theorem SimC.ended {S Sf : List Pe} {c : MC} {c' : SC} {T : Nat → PV} {H : Ob} {n : Nat} {e : Ex} {s1 : St} (ih : ∀ e s1, Y E c' ⟨T, H, n⟩ = some (e, s1) → SimC E D S Sf c T H n e s1) (h : Y E (endNeeds Sf c') ⟨T, H, n⟩ = some (e, s1)) :
    (∀ p ∈ S, Ok T H p) ∧ ∀ T', Sim D S T T' H → ∃ T1', X E c ⟨T', H, n⟩ = some (e, ⟨T1', s1.H, s1.next⟩) ∧ RelE D [] s1.T T1' s1.H e := by
  obtain ⟨h1, h2⟩ := endNeeds_run h
  obtain ⟨g1, g2⟩ := ih e s1 h1
  obtain ⟨g3, g4⟩ := g2 (fun he => needs_all (g1 he).1 (g1 he).2 (h2 he))
  refine ⟨g3, fun T' hS => ?_⟩
  obtain ⟨T1', k1, k2⟩ := g4 T' hS
  exact ⟨T1', k1, k2.nil⟩

theorem tr_ok : ∀ {c : MC} {S Sf : List Pe} {c' : SC} {T : Nat → PV} {H : Ob} {n : Nat} {e : Ex} {s1 : St}, tr D S c = some (c', Sf) → Inv D S → Su S T H → Y E c' ⟨T, H, n⟩ = some (e, s1) → SimC E D S Sf c T H n e s1
  | .skip, S, Sf, c', T, H, n, e, s1, hc, hI, hsu, h => by
    simp only [tr] at hc
    injection hc with hc
    injection hc with h1 h2
    subst h1; subst h2
    simp only [Y] at h
    injection h with h
    injection h with h1 h2
    subst h1; subst h2
    exact ⟨fun _ => ⟨hI, hsu⟩, fun hok => ⟨hok rfl, fun T' hS => ⟨T', rfl, hS⟩⟩⟩
  | .exit i, S, Sf, c', T, H, n, e, s1, hc, hI, hsu, h => by
    simp only [tr] at hc
    injection hc with hc
    injection hc with h1 h2
    subst h1; subst h2
    obtain ⟨g1, g2⟩ := withNeeds_run h
    simp only [Y] at g1
    injection g1 with g1
    injection g1 with h1 h2
    subst h1; subst h2
    exact ⟨(fun h => by cases h), fun _ => ⟨needs_all hI hsu g2, fun T' hS => ⟨T', rfl, hS.out⟩⟩⟩
  | .ret, S, Sf, c', T, H, n, e, s1, hc, hI, hsu, h => by
    simp only [tr] at hc
    injection hc with hc
    injection hc with h1 h2
    subst h1; subst h2
    obtain ⟨g1, g2⟩ := withNeeds_run h
    simp only [Y] at g1
    injection g1 with g1
    injection g1 with h1 h2
    subst h1; subst h2
    exact ⟨(fun h => by cases h), fun _ => ⟨needs_all hI hsu g2, fun T' hS => ⟨T', rfl, hS.out⟩⟩⟩
  | .reg ops draw, S, Sf, c', T, H, n, e, s1, hc, hI, hsu, h => by
    simp only [tr] at hc
    obtain ⟨⟨l, Sl⟩, h1, hc⟩ := bnd_eq_some.1 hc
    injection hc with hc
    injection hc with e1 e2
    subst e1; subst e2
    simp only at h h1 ⊢
    simp only [Y] at h
    rw [ticks_ok, Nat.add_zero] at h
    have h' : sts E draw (l ++ []) T H n = some (e, s1) := by rw [List.append_nil]; exact h
    obtain ⟨g1, g2⟩ := trL_ok hI hsu h1 h'
    rcases g2 with ⟨T1, H1, n1, k1, k2, k3⟩ | ⟨hdr, v, Tp, Hp, np, k1, k2, k3⟩
    · simp only [sts] at k1
      injection k1 with k1
      injection k1 with e1 e2
      subst e1; subst e2
      refine ⟨fun _ => ⟨?_, k2⟩, fun hok => ?_⟩
      · rcases g1 with ⟨v, Tp, Hp, np, e3⟩ | g1
        · injection e3 with e3; cases e3
        · exact g1
      · obtain ⟨k4, k5⟩ := k3 (hok rfl)
        refine ⟨k4, fun T' hS => ?_⟩
        obtain ⟨T1', q1, q2⟩ := k5 T' hS
        exact ⟨T1', q1, q2⟩
    · injection k1 with e1 e2
      subst e1; subst e2
      refine ⟨(fun h => by cases h), fun _ => ⟨k2, fun T' hS => ?_⟩⟩
      obtain ⟨Tp', q1⟩ := k3 T' hS
      exact ⟨Tp', q1, trivial⟩
  | .regD ops chk pre, S, Sf, c', T, H, n, e, s1, hc, hI, hsu, h => by
    simp only [tr] at hc
    split at hc
    · rename_i hsl3
      obtain ⟨hsl, hpre, hS0⟩ := hsl3
      have hS0 : S = [] := by simpa using hS0
      subst hS0
      obtain ⟨⟨l, Sl⟩, h1, hc⟩ := bnd_eq_some.1 hc
      injection hc with hc
      injection hc with e1 e2
      subst e1; subst e2
      simp only at h h1 ⊢
      simp only [Y] at h
      obtain ⟨⟨e2, s2⟩, h2, h3⟩ := bnd_eq_some.1 h
      cases e2 with
      | normal =>
        simp only at h3
        split at h3
        · rename_i hck
          injection h3 with h3
          injection h3 with e3 e4
          subst e3; subst e4
          rw [ticks_ok, Nat.add_zero] at h2
          have h' : sts E true (l ++ []) T (frz T pre H) n = some (.normal, s2) := by rw [List.append_nil]; exact h2
          obtain ⟨g1, g2⟩ := trL_ok Inv.nil Su.nil h1 h'
          rcases g2 with ⟨T1, H1, n1, k1, k2, k3⟩ | ⟨hdr, v, Tp, Hp, np, k1, k2, k3⟩
          · simp only [sts] at k1
            injection k1 with k1
            injection k1 with e1 e2
            subst e2
            refine ⟨fun _ => ⟨?_, k2⟩, fun hok => ?_⟩
            · rcases g1 with ⟨v, Tp, Hp, np, e3⟩ | g1
              · injection e3 with e3; cases e3
              · exact g1
            · obtain ⟨k4, k5⟩ := k3 (hok rfl)
              refine ⟨(fun p hp => by cases hp), fun T' hS => ?_⟩
              obtain ⟨T1', q1, q2⟩ := k5 T' hS.nil
              refine ⟨T1', ?_, q2⟩
              have hfz : frz T' pre H = frz T pre H := by
                have : ∀ (l : List Nat) (H : Ob), (∀ x ∈ l, T' x = T x) → frz T' l H = frz T l H := by
                  intro l
                  induction l with
                  | nil => intro H _; rfl
                  | cons x r ih =>
                    intro H hx
                    simp only [frz]
                    rw [hx x (List.mem_cons_self ..)]
                    exact ih _ (fun y hy => hx y (List.mem_cons_of_mem _ hy))
                refine this pre H (fun x hx => hS.out x ?_)
                have := List.all_eq_true.1 hpre x hx
                simpa using this
              simp only [X, hfz, q1, bnd_some]
              have hsame : ∀ x ∈ chkSl chk, T1' x = T1 x := fun x hx => q2.out x (by
                have := List.all_eq_true.1 hsl x hx
                simpa using this)
              have : chk.all (heldX T1' n) = true := by
                rw [List.all_eq_true] at hck ⊢
                intro c hc
                have h0 := hck c hc
                have e1 : ∀ {l : List MX}, (∀ i ∈ l.flatMap sx, T1' i = T1 i) → (l.flatMap fun x => heads (valX T1' x)) = l.flatMap fun x => heads (valX T1 x) := by
                  intro l hl
                  induction l with
                  | nil => rfl
                  | cons x r ih =>
                    rw [List.flatMap_cons, List.flatMap_cons, ih (fun i hi => hl i (by rw [List.flatMap_cons]; exact List.mem_append_right _ hi)), valX_congr (fun i hi => hl i (by rw [List.flatMap_cons]; exact List.mem_append_left _ hi))]
                have ea := e1 (l := c.2.2.1) (fun i hi => hsame i (List.mem_flatMap.2 ⟨c, hc, List.mem_append_left _ hi⟩))
                have eb := e1 (l := c.2.2.2.2.2) (fun i hi => hsame i (List.mem_flatMap.2 ⟨c, hc, List.mem_append_right _ hi⟩))
                unfold heldX touchX at h0 ⊢
                rw [ea, eb]
                exact h0
              rw [if_pos this]
          · cases hdr
        · cases h3
      | _ => cases h3
    · cases hc
  | .orig ops, S, Sf, c', T, H, n, e, s1, hc, hI, hsu, h => by
    simp only [tr] at hc
    split at hc
    · rename_i hD
      injection hc with hc
      injection hc with h1 h2
      subst h1; subst h2
      have hD : D = [] := by simpa using hD
      subst hD
      have hS : S = [] := by
        cases S with
        | nil => rfl
        | cons p S => exact absurd (hI.mem p (List.mem_cons_self ..)) (by simp)
      subst hS
      refine ⟨fun _ => ⟨Inv.nil, Su.nil⟩, fun _ => ⟨(fun p hp => by cases hp), fun T' hS => ?_⟩⟩
      have eT : T' = T := funext fun i => hS.out i (by simp)
      subst eT
      refine ⟨s1.T, h, ?_⟩
      have hs : Sim ([] : List Nat) [] s1.T s1.T s1.H := ⟨fun _ _ => rfl, (fun p hp => by cases hp)⟩
      cases e with
      | normal => exact hs
      | panic v => trivial
      | _ => exact fun _ _ => rfl
    · cases hc
  | .seq a b, S, Sf, c', T, H, n, e, s1, hc, hI, hsu, h => by
    simp only [tr] at hc
    obtain ⟨⟨ca, Sa⟩, h1, hc⟩ := bnd_eq_some.1 hc
    obtain ⟨⟨cb, Sb⟩, h2, hc⟩ := bnd_eq_some.1 hc
    injection hc with hc
    injection hc with e1 e2
    subst e1; subst e2
    simp only at h2
    simp only [Y] at h
    obtain ⟨⟨ea, sa⟩, h3, h4⟩ := bnd_eq_some.1 h
    obtain ⟨g1, g2⟩ := tr_ok h1 hI hsu h3
    cases ea with
    | normal =>
      simp only at h4
      obtain ⟨Ta, Ha, na⟩ := sa
      obtain ⟨k1, k2⟩ := tr_ok h2 (g1 rfl).1 (g1 rfl).2 h4
      refine ⟨k1, fun hok => ?_⟩
      obtain ⟨k3, k4⟩ := k2 hok
      obtain ⟨g3, g4⟩ := g2 (fun _ => k3)
      refine ⟨g3, fun T' hS => ?_⟩
      obtain ⟨Ta', q1, q2⟩ := g4 T' hS
      obtain ⟨Tb', q3, q4⟩ := k4 Ta' q2
      refine ⟨Tb', ?_, q4⟩
      simp only [X, q1, bnd_some]
      exact q3
    | _ =>
      simp only at h4
      injection h4 with h4
      injection h4 with e1 e2
      subst e1; subst e2
      refine ⟨(fun h => by cases h), fun hok => ?_⟩
      obtain ⟨g3, g4⟩ := g2 (fun h => by cases h)
      refine ⟨g3, fun T' hS => ?_⟩
      obtain ⟨Ta', q1, q2⟩ := g4 T' hS
      refine ⟨Ta', ?_, q2⟩
      simp only [X, q1, bnd_some]
  | .cond x a b, S, Sf, c', T, H, n, e, s1, hc, hI, hsu, h => by
    simp only [tr] at hc
    obtain ⟨ec, h0, hc⟩ := bnd_eq_some.1 hc
    obtain ⟨⟨ca, Sa⟩, h1, hc⟩ := bnd_eq_some.1 hc
    obtain ⟨⟨cb, Sb⟩, h2, hc⟩ := bnd_eq_some.1 hc
    injection hc with hc
    injection hc with e1 e2
    subst e1; subst e2
    obtain ⟨g1, g2⟩ := withNeeds_run h
    simp only [Y] at g1
    obtain ⟨v, hv, g1⟩ := bnd_eq_some.1 g1
    have hg : gdOf D S none = some [] := rfl
    have hall : ∀ p ∈ S, Ok T H p := by
      refine needs_all hI hsu (fun p hp hcv hs => ?_)
      cases hcd : (p.gd == none && (sx x).contains p.d) with
      | false => exact g2 p (List.mem_filter.2 ⟨hp, by simp only [hcd]; rfl⟩) hcv hs
      | true =>
        simp only [Bool.and_eq_true] at hcd
        have := rdX_mem hI hp h0 hcd.2
        intro _
        exact ⟨v, by rw [← this]; exact hv⟩
    split at g1
    · rename_i t
      refine ⟨fun _ => ⟨Inv.nil, Su.nil⟩, fun _ => ⟨hall, fun T' hS => ?_⟩⟩
      have hx : valX T' x = .s (.bool t) := rdX_ok hI hS hg Holds.nil h0 hv
      simp only [X, hx]
      cases t with
      | true =>
        simp only [if_true] at g1 ⊢
        exact (SimC.ended (fun e s1 h => tr_ok h1 Inv.nil Su.nil h) g1).2 T' hS.nil
      | false =>
        simp only [Bool.false_eq_true, if_false] at g1 ⊢
        exact (SimC.ended (fun e s1 h => tr_ok h2 Inv.nil Su.nil h) g1).2 T' hS.nil
    · cases g1
  | .block id c, S, Sf, c', T, H, n, e, s1, hc, hI, hsu, h => by
    simp only [tr] at hc
    obtain ⟨⟨ca, Sa⟩, h1, hc⟩ := bnd_eq_some.1 hc
    injection hc with hc
    injection hc with e1 e2
    subst e1; subst e2
    simp only [Y] at h
    obtain ⟨⟨ea, sa⟩, h3, h4⟩ := bnd_eq_some.1 h
    obtain ⟨g3, g4⟩ := SimC.ended (fun e s1 h => tr_ok h1 hI hsu h) h3
    refine ⟨fun _ => ⟨Inv.nil, Su.nil⟩, fun _ => ⟨g3, fun T' hS => ?_⟩⟩
    obtain ⟨Ta', q1, q2⟩ := g4 T' hS
    refine ⟨Ta', ?_, ?_⟩
    · simp only [X, q1, bnd_some]
      cases ea with
      | exit i =>
        simp only at h4 ⊢
        injection h4 with h4
        injection h4 with e1 e2
        rw [e1, ← e2]
      | _ =>
        simp only at h4 ⊢
        injection h4 with h4
        injection h4 with e1 e2
        rw [← e1, ← e2]
    · cases ea with
      | exit i =>
        simp only at h4
        injection h4 with h4
        injection h4 with e1 e2
        rw [← e1, ← e2]
        split
        · exact ⟨q2, (fun p hp => by cases hp)⟩
        · exact q2
      | _ =>
        simp only at h4
        injection h4 with h4
        injection h4 with e1 e2
        rw [← e1, ← e2]
        exact q2
  | .loop c, S, Sf, c', T, H, n, e, s1, hc, hI, hsu, h => by
    simp only [tr] at hc
    obtain ⟨⟨ca, Sa⟩, h1, hc⟩ := bnd_eq_some.1 hc
    injection hc with hc
    injection hc with e1 e2
    subst e1; subst e2
    obtain ⟨g1, g2⟩ := withNeeds_run h
    simp only [Y] at g1
    obtain ⟨K, hK⟩ := lim_eq.1 g1
    have hb : ∀ {T T' : Nat → PV} {H : Ob} {n : Nat} {e : Ex} {s1 : St}, Y E (endNeeds Sa ca) ⟨T, H, n⟩ = some (e, s1) → (∀ i, D.contains i = false → T' i = T i) → ∃ T1', X E c ⟨T', H, n⟩ = some (e, ⟨T1', s1.H, s1.next⟩) ∧ RelE D [] s1.T T1' s1.H e := by
      intro T T' H n e s1 hy ho
      exact (SimC.ended (fun e s1 h => tr_ok h1 Inv.nil Su.nil h) hy).2 T' ⟨ho, (fun p hp => by cases hp)⟩
    have key : ∀ (k : Nat) (T T' : Nat → PV) (H : Ob) (n : Nat), loopN (Y E (endNeeds Sa ca)) k ⟨T, H, n⟩ = some (e, s1) → (∀ i, D.contains i = false → T' i = T i) → ∃ T1', loopN (X E c) k ⟨T', H, n⟩ = some (e, ⟨T1', s1.H, s1.next⟩) ∧ RelE D [] s1.T T1' s1.H e := by
      intro k
      induction k with
      | zero => intro T T' H n hl; simp [loopN] at hl
      | succ k ih =>
        intro T T' H n hl ho
        simp only [loopN] at hl ⊢
        obtain ⟨⟨eb, ⟨Tb, Hb, nb⟩⟩, h3, h4⟩ := bnd_eq_some.1 hl
        obtain ⟨Tb', q1, q2⟩ := hb h3 ho
        simp only at q1 q2
        simp only [q1, bnd_some]
        cases eb with
        | normal =>
          simp only at h4 ⊢
          exact ih Tb Tb' Hb nb h4 (Sim.out q2)
        | _ =>
          simp only at h4 ⊢
          injection h4 with h4
          injection h4 with e1 e2
          subst e1; subst e2
          exact ⟨Tb', rfl, q2⟩
    refine ⟨fun _ => ⟨Inv.nil, Su.nil⟩, fun _ => ⟨needs_all hI hsu g2, fun T' hS => ?_⟩⟩
    obtain ⟨T1', q1, q2⟩ := key K T T' H n (hK K (Nat.le_refl _)) hS.out
    refine ⟨T1', ?_, q2⟩
    simp only [X]
    exact lim_eq.2 ⟨K, fun m hm => loopN_mono q1 m hm⟩

theorem resM_congr {D : List Nat} {T T' : Nat → PV} {H : Ob} (ho : ∀ i, D.contains i = false → T' i = T i) : ∀ {rs : List MR}, rs.all (fun r => !D.contains (slotR r)) = true → resM T' H rs = resM T H rs
  | [], h => rfl
  | .t i :: r, h => by
    simp only [List.all_cons, Bool.and_eq_true, slotR] at h
    simp only [resM]
    rw [resM_congr ho h.2, ho i (by simpa using h.1)]
  | .cell agg sz i :: r, h => by
    simp only [List.all_cons, Bool.and_eq_true, slotR] at h
    simp only [resM]
    rw [resM_congr ho h.2, ho i (by simpa using h.1)]
/-- A function by its statements. -/
theorem sF_run {f : FuncId} {m : SF} {args : List PV} {H : Ob} {next : Nat} {x : Ex × St} {r : Out × Ob × Nat} (hf : sF E f D = some m) (hl : args.length ≤ m.nt) (hx : Y E m.c ⟨enter args, H, next⟩ = some x) (hr : finM m.rs x = some r) :
    ∃ m' x', cF E f = some m' ∧ args.length ≤ m'.nt ∧ X E m'.c ⟨enter args, H, next⟩ = some x' ∧ finM m'.rs x' = some r := by
  unfold sF at hf
  obtain ⟨m', h1, hf⟩ := bnd_eq_some.1 hf
  unfold trF at hf
  split at hf
  · rename_i hrs
    obtain ⟨⟨c', Sf⟩, h2, hf⟩ := bnd_eq_some.1 hf
    injection hf with hf
    subst hf
    simp only at hl hx hr
    obtain ⟨e, s1⟩ := x
    obtain ⟨T1', q1, q2⟩ := (SimC.ended (fun e s1 h => tr_ok h2 Inv.nil Su.nil h) hx).2 (enter args) ⟨fun _ _ => rfl, (fun p hp => by cases hp)⟩
    refine ⟨m', (e, ⟨T1', s1.H, s1.next⟩), h1, hl, q1, ?_⟩
    rw [← hr]
    unfold finM
    cases e with
    | normal =>
      simp only
      rw [resM_congr (Sim.out q2) hrs]
    | ret =>
      simp only
      rw [resM_congr q2 hrs]
    | panic v => rfl
    | exit i => rfl
  · cases hf
theorem runS_of {f : FuncId} {m : SF} {args : List PV} {H : Ob} {next : Nat} {x : Ex × St} {r : Out × Ob × Nat} (hf : sF E f D = some m) (hl : args.length ≤ m.nt) (hx : Y E m.c ⟨enter args, H, next⟩ = some x) (hr : finM m.rs x = some r) :
    runL E f args H next = some r := by
  obtain ⟨m', x', h1, h2, h3, h4⟩ := sF_run hf hl hx hr
  exact runL_of h1 h2 h3 h4
theorem calS_of {f : FuncId} {m : SF} {args : List PV} {hs : List HObj} {x : Ex × St} {r : Out × Ob × Nat} {o : Out} {l : List HObj} (hf : sF E f D = some m) (hl : args.length ≤ m.nt) (hx : Y E m.c ⟨enter args, Ob.of hs, hs.length⟩ = some x) (hr : finM m.rs x = some r)
    (hb : finE (E.loc f) hs.length r = some (o, l)) : calL E f args hs = some (o, l) := by
  obtain ⟨m', x', h1, h2, h3, h4⟩ := sF_run hf hl hx hr
  exact calL_of h1 h2 h3 h4 hb
theorem finE_no {f : FuncId} {r : Out × Ob × Nat} {o : Out} (hlf : E.loc f = false) (ho : ownOut 0 r.2.1 r.1 = some o) : finE (E.loc f) 0 r = some (o, []) := by
  unfold finE
  rw [hlf, if_neg Bool.false_ne_true]
  unfold finC
  rw [ho]
  rfl
end
end Go.Vm
end
section
set_option linter.unusedVariables false
set_option linter.unusedSimpArgs false
namespace Go.Vm
open Go.RowKit Go.ChangeShapes Go.WideShapes

/-- The cells of a type: what the machine holds there. -/
def typed (P : Program) : Nat → TypeId → List SV → Prop
  | 0, _, _ => False
  | n + 1, t, xs => match P.underlying t with
    | some .bool => ∃ b, xs = [.bool b]
    | some (.int k) => ∃ i, xs = [.int k i] ∧ k.min ≤ i ∧ i ≤ k.max
    | some .string => ∃ l, xs = [.str l] ∧ l.length ≤ reachBytes
    | some (.slice e) => xs = [.nils] ∨ ∃ es, xs = [.slice es false] ∧ es.length ≤ reachBytes ∧ ∀ c ∈ es, c.length = P.cellsOf e ∧ typed P n e c
    | some (.struct fs) => xs.length = P.cellsOf t ∧ ∀ f ∈ fs.toList, typed P n f.type ((xs.drop f.offset).take (P.cellsOf f.type))
    | _ => False
def layF (P : Program) : List Field → Nat → Nat → Bool
  | [], o, n => decide (o = n)
  | f :: r, o, n => decide (f.offset = o) && layF P r (o + P.cellsOf f.type) n
/-- A list of types that is closed and is served: elements of slices have cells, fields lie one behind the other. -/
def okT (P : Program) (L : List TypeId) : Bool := L.all fun t => match P.underlying t with
  | some .bool => true
  | some (.int _) => true
  | some .string => true
  | some (.slice e) => decide (0 < P.cellsOf e) && decide (0 < P.bytesOf e) && L.contains e
  | some (.struct fs) => layF P fs.toList 0 (P.cellsOf t) && fs.toList.all fun f => L.contains f.type
  | _ => false
/-- The memory, as it was at the start. -/
def fixOf (W : World) : Fix := fun b o => W.cell? ⟨b, o, none⟩

section
variable {H : Type} {enc : TypeId × Value → H} {P : Program} {W : World} {spare : Nat → Bool} {held : Bool}

theorem mapM_get {α β : Type} {f : α → Option β} : ∀ {l : List α} {r : List β}, l.mapM f = some r → r.length = l.length ∧ ∀ (i : Nat) x, l[i]? = some x → ∃ y, f x = some y ∧ r[i]? = some y
  | [], r, h => by
    simp at h
    subst h
    exact ⟨rfl, fun i x hx => by simp at hx⟩
  | a :: l, r, h => by
    rw [List.mapM_cons] at h
    cases hfa : f a with
    | none => rw [hfa] at h; cases h
    | some y =>
      rw [hfa] at h
      cases hl : l.mapM f with
      | none => rw [hl] at h; cases h
      | some q =>
        rw [hl] at h
        have h : some (y :: q) = some r := h
        injection h with h
        subst h
        obtain ⟨h1, h2⟩ := mapM_get hl
        refine ⟨by simp [h1], fun i x hx => ?_⟩
        cases i with
        | zero =>
          simp at hx
          subst hx
          exact ⟨y, hfa, rfl⟩
        | succ i =>
          simp at hx
          obtain ⟨z, hz1, hz2⟩ := h2 i x hx
          exact ⟨z, hz1, by simpa using hz2⟩
theorem mapM_range {α : Type} {f : Nat → Option α} {n : Nat} {l : List α} (h : (List.range n).mapM f = some l) : l.length = n ∧ ∀ i, i < n → ∃ x, f i = some x ∧ l[i]? = some x := by
  obtain ⟨h1, h2⟩ := mapM_get h
  refine ⟨by simpa using h1, fun i hi => h2 i i (by simp [hi])⟩
theorem cells_get {base : Nat} {a : Addr} {n : Nat} {l : List Value} (h : W.cells? base a n = some l) : l.length = n ∧ ∀ i, i < n → ∃ x, W.cell? (a.add i) = some x ∧ l[i]? = some x := by
  unfold World.cells? at h
  split at h
  · exact mapM_range h
  · cases h
theorem cell_spot {a : Addr} {v : Value} (h : W.cell? a = some v) : a.spot = none ∧ W.cell? ⟨a.block, a.off, none⟩ = some v := by
  obtain ⟨b, o, s⟩ := a
  cases s with
  | none => exact ⟨rfl, h⟩
  | some k =>
    unfold World.cell? at h
    split at h
    · simp at h
    · cases h
theorem choose_list {α β : Type} {R : α → β → Prop} : ∀ {l : List β}, (∀ y ∈ l, ∃ x, R x y) → ∃ r : List α, r.length = l.length ∧ ∀ (i : Nat) x y, r[i]? = some x → l[i]? = some y → R x y
  | [], _ => ⟨[], rfl, fun i x y h => by simp at h⟩
  | y :: l, h => by
    obtain ⟨x, hx⟩ := h y (List.mem_cons_self ..)
    obtain ⟨r, h1, h2⟩ := choose_list (l := l) fun z hz => h z (List.mem_cons_of_mem _ hz)
    refine ⟨x :: r, by simp [h1], fun i a b ha hb => ?_⟩
    cases i with
    | zero => simp at ha hb; subst ha; subst hb; exact hx
    | succ i => exact h2 i a b (by simpa using ha) (by simpa using hb)
/-- Cells against values. -/
def CellsRel (F : Fix) (xs : List SV) (cs : List Value) : Prop := xs.length = cs.length ∧ ∀ (i : Nat) x v, xs[i]? = some x → cs[i]? = some v → SRel F x v
theorem CellsRel.one {F : Fix} {x : SV} {v : Value} (h : SRel F x v) : CellsRel F [x] [v] := by
  refine ⟨rfl, fun i y u hy hu => ?_⟩
  cases i with
  | zero => simp at hy hu; subst hy; subst hu; exact h
  | succ i => simp at hy
theorem CellsRel.part {F : Fix} {xs : List SV} {cs : List Value} (h : CellsRel F xs cs) (o n : Nat) : CellsRel F ((xs.drop o).take n) ((cs.drop o).take n) := by
  refine ⟨by simp [h.1], fun i x v hx hv => ?_⟩
  rw [List.getElem?_take] at hx hv
  split at hx
  · rename_i hi
    rw [if_pos hi] at hv
    rw [List.getElem?_drop] at hx hv
    exact h.2 _ _ _ hx hv
  · cases hx
theorem get_part {α : Type} {l : List α} {o n i : Nat} (h : i < n) : ((l.drop o).take n)[i]? = l[o + i]? := by
  rw [List.getElem?_take, if_pos h, List.getElem?_drop]

theorem lay_le {n : Nat} : ∀ {fs : List Field} {o : Nat}, layF P fs o n = true → o ≤ n
  | [], o, h => by simp [layF] at h; omega
  | f :: r, o, h => by
    simp only [layF, Bool.and_eq_true] at h
    have := lay_le h.2
    omega
theorem lay_cells {F : Fix} {m n : Nat} {cs : List Value} (hn : cs.length = n) : ∀ {fs : List Field} {o : Nat}, layF P fs o n = true →
    (∀ f ∈ fs, ∃ xs, CellsRel F xs ((cs.drop f.offset).take (P.cellsOf f.type)) ∧ typed P m f.type xs) →
    ∃ ys, CellsRel F ys (cs.drop o) ∧ (∀ f ∈ fs, o ≤ f.offset ∧ typed P m f.type ((ys.drop (f.offset - o)).take (P.cellsOf f.type)))
  | [], o, h, _ => by
    simp [layF] at h
    refine ⟨[], ⟨by simp; omega, fun i x v hx => by simp at hx⟩, fun f hf => by cases hf⟩
  | f :: r, o, h, hf => by
    simp only [layF, Bool.and_eq_true, decide_eq_true_eq] at h
    obtain ⟨h1, h2⟩ := h
    obtain ⟨xs, hx1, hx2⟩ := hf f (List.mem_cons_self ..)
    obtain ⟨ys, hy1, hy2⟩ := lay_cells hn h2 (fun g hg => hf g (List.mem_cons_of_mem _ hg))
    have hle := lay_le h2
    have hxl : xs.length = P.cellsOf f.type := by
      have := hx1.1
      simp at this
      omega
    refine ⟨xs ++ ys, ⟨?_, fun i x v hx hv => ?_⟩, fun g hg => ?_⟩
    · have := hy1.1
      simp at this ⊢
      omega
    · rw [List.getElem?_drop] at hv
      by_cases hi : i < xs.length
      · rw [List.getElem?_append_left hi] at hx
        refine hx1.2 i x v hx ?_
        rw [get_part (by omega), h1]
        exact hv
      · rw [List.getElem?_append_right (by omega)] at hx
        refine hy1.2 (i - xs.length) x v hx ?_
        rw [List.getElem?_drop]
        have : o + P.cellsOf f.type + (i - xs.length) = o + i := by omega
        rw [this]
        exact hv
    · rcases List.mem_cons.1 hg with e | hg
      · subst e
        refine ⟨by omega, ?_⟩
        rw [h1, Nat.sub_self, List.drop_zero, ← hxl, List.take_left']
        · exact hx2
        · rfl
      · obtain ⟨k1, k2⟩ := hy2 g hg
        refine ⟨by omega, ?_⟩
        have e1 : (xs ++ ys).drop (g.offset - o) = ys.drop (g.offset - (o + P.cellsOf f.type)) := by
          rw [List.drop_append]
          have : xs.drop (g.offset - o) = [] := List.drop_eq_nil_of_le (by omega)
          rw [this, List.nil_append, hxl]
          congr 1
          omega
        rw [e1]
        exact k2

theorem weights_mem_all {e : TypeId} : ∀ {ds : List (DataW H)} {d : DataW H}, d ∈ ds → ∀ n ∈ d.weights P e, n ∈ DataW.weightsAll P e ds
  | d0 :: ds, d, hd, n, hn => by
    simp only [DataW.weightsAll, List.mem_append]
    rcases List.mem_cons.1 hd with rfl | hd
    · exact .inl hn
    · exact .inr (weights_mem_all hd n hn)
theorem weights_each_append : ∀ {ts us : List TypeId} {ds es : List (DataW H)} {n : Nat}, n ∈ DataW.weightsEach P ts ds → n ∈ DataW.weightsEach P (ts ++ us) (ds ++ es)
  | [], _, _, _, n, h => by simp [DataW.weightsEach] at h
  | t :: ts, _, [], _, n, h => by simp [DataW.weightsEach] at h
  | t :: ts, us, d :: ds, es, n, h => by
    simp only [DataW.weightsEach, List.mem_append, List.cons_append] at h ⊢
    rcases h with h | h
    · exact .inl h
    · exact .inr (weights_each_append h)
theorem trod_sv {L : List TypeId} (hL : okT P L = true) : ∀ (fuel : Nat) (t : TypeId) (cs : List Value) (x : DataW H × List MemPlace), DataW.trod enc P W 0 spare held fuel t cs = some x → t ∈ L → (∀ n ∈ x.1.weights P t, n ≤ reachBytes) →
    ∃ xs, CellsRel (fixOf W) xs cs ∧ typed P fuel t xs := by
  intro fuel
  induction fuel with
  | zero => intro t cs x h; simp [DataW.trod] at h
  | succ fuel ih =>
    intro t cs x h ht hwt
    have hok := List.all_eq_true.1 hL t ht
    unfold typed
    cases hu : P.underlying t with
    | none => rw [hu] at hok; cases hok
    | some d =>
      rw [hu] at hok
      cases d with
      | bool =>
        obtain ⟨b, rfl, _⟩ := DataW.trod_bool hu h
        exact ⟨[.bool b], .one (.bool b), b, rfl⟩
      | int k =>
        obtain ⟨n, rfl, _, hw⟩ := DataW.trod_int hu h
        simp only [Lit.wf, Bool.and_eq_true, decide_eq_true_eq] at hw
        exact ⟨[.int k n], .one (.int k n), n, rfl, hw.1, hw.2⟩
      | string =>
        obtain ⟨s, rfl, rfl, hs⟩ := DataW.trod_string hu h
        refine ⟨[.str s.data.toList], .one ?_, s.data.toList, rfl, ?_⟩
        · exact .str s.data.toList
        · exact hwt _ (by simp [DataW.weights])
      | slice e =>
        simp only [Bool.and_eq_true, decide_eq_true_eq, List.contains_iff_mem] at hok
        obtain ⟨⟨hz, hby⟩, he⟩ := hok
        rcases DataW.trod_slice hu h with ⟨rfl, _⟩ | ⟨a, len, cap, elems, rest, n, e1, rfl, rfl, _, hlc, hcap, hel, hall, _⟩
        · exact ⟨[.nils], .one .nils, .inl rfl⟩
        · have e1 : fuel = n := by omega
          subst e1
          have hreach : len ≤ reachBytes := by
            have h1 := hwt ((elems.length + rest.length) * P.bytesOf e) (by simp [DataW.weights, hu])
            have h2 : elems.length + rest.length ≤ (elems.length + rest.length) * P.bytesOf e := Nat.le_mul_of_pos_right _ hby
            omega
          have hin : ∀ (i : Nat) y, elems[i]? = some y → ∀ n ∈ y.1.weights P e, n ≤ reachBytes := fun i y hy n hn => hwt n (by
            simp only [DataW.weights, hu, List.mem_cons, List.mem_append]
            exact .inr (.inl (weights_mem_all (List.mem_map.2 ⟨y, List.mem_of_getElem? hy, rfl⟩) n hn)))
          have hex : ∀ i ∈ List.range len, ∃ xs : List SV, (∀ j p, xs[j]? = some p → ∃ v, a.spot = none ∧ W.cell? ⟨a.block, a.off + (i * P.cellsOf e + j), none⟩ = some v ∧ SRel (fixOf W) p v) ∧ xs.length = P.cellsOf e ∧ typed P fuel e xs := by
            intro i hi
            have hi : i < len := List.mem_range.1 hi
            have h1 := hall i hi
            have h2 : elems[i]? = some elems[i] := List.getElem?_eq_getElem (by omega)
            rw [h2] at h1
            cases hc : W.cells? 0 (a.add (i * P.cellsOf e)) (P.cellsOf e) with
            | none => rw [hc] at h1; cases h1
            | some l =>
              rw [hc] at h1
              simp only [Option.bind_some] at h1
              obtain ⟨xs, g1, g2⟩ := ih e l _ h1 he (hin i _ h2)
              obtain ⟨k1, k2⟩ := cells_get hc
              refine ⟨xs, fun j p hp => ?_, by rw [g1.1, k1], g2⟩
              have hj : j < xs.length := (List.getElem?_eq_some_iff.1 hp).1
              obtain ⟨v, q1, q2⟩ := k2 j (by rw [g1.1, k1] at hj; exact hj)
              obtain ⟨q3, q4⟩ := cell_spot q1
              have hadd : ((a.add (i * P.cellsOf e)).add j).block = a.block ∧ ((a.add (i * P.cellsOf e)).add j).off = a.off + (i * P.cellsOf e + j) := by
                unfold Addr.add
                constructor <;> (split <;> split <;> simp_all <;> omega)
              rw [hadd.1, hadd.2] at q4
              obtain ⟨v0, r1, r2⟩ := k2 0 hz
              refine ⟨v, ?_, q4, g1.2 j p v hp q2⟩
              have h0 := hall 0 (by omega)
              have h2' : elems[0]? = some (elems[0]'(by omega)) := List.getElem?_eq_getElem (by omega)
              rw [h2'] at h0
              cases hc0 : W.cells? 0 (a.add (0 * P.cellsOf e)) (P.cellsOf e) with
              | none => rw [hc0] at h0; cases h0
              | some l0 =>
                obtain ⟨_, m2⟩ := cells_get hc0
                obtain ⟨w0, m3, _⟩ := m2 0 hz
                have m4 := (cell_spot m3).1
                simpa [Addr.add] using m4
          obtain ⟨es, l1, l2⟩ := choose_list (R := fun xs i => (∀ j p, xs[j]? = some p → ∃ v, a.spot = none ∧ W.cell? ⟨a.block, a.off + (i * P.cellsOf e + j), none⟩ = some v ∧ SRel (fixOf W) p v) ∧ xs.length = P.cellsOf e ∧ typed P fuel e xs) hex
          have hes : ∀ i c, es[i]? = some c → (∀ j p, c[j]? = some p → ∃ v, a.spot = none ∧ W.cell? ⟨a.block, a.off + (i * P.cellsOf e + j), none⟩ = some v ∧ SRel (fixOf W) p v) ∧ c.length = P.cellsOf e ∧ typed P fuel e c := by
            intro i c hc
            have hi : i < es.length := (List.getElem?_eq_some_iff.1 hc).1
            rw [l1, List.length_range] at hi
            exact l2 i c i hc (by rw [List.getElem?_range hi])
          have hlen : es.length = len := by simpa using l1
          have hmem : ∀ c ∈ es, c.length = P.cellsOf e ∧ typed P fuel e c := by
            intro c hc
            obtain ⟨i, hi⟩ := List.getElem?_of_mem hc
            exact (hes i c hi).2
          refine ⟨[.slice es false], .one ?_, .inr ⟨es, rfl, by rw [hlen]; exact hreach, hmem⟩⟩
          have := SRel.slice (F := fixOf W) es false a cap (P.cellsOf e) (fun i j => (W.cell? ⟨a.block, a.off + (i * P.cellsOf e + j), none⟩).getD undef) (fun c hc => (hmem c hc).1)
            (fun hne => by
              cases es with
              | nil => exact absurd rfl hne
              | cons c es =>
                have hcl := (hmem c (List.mem_cons_self ..)).1
                cases c with
                | nil => simp at hcl; omega
                | cons p c =>
                  obtain ⟨v, h1, _⟩ := (hes 0 (p :: c) rfl).1 0 p rfl
                  exact h1)
            (by omega) hcap (fun h => by cases h)
            (fun i c j p hi hj => by
              obtain ⟨v, _, h2, _⟩ := (hes i c hi).1 j p hj
              show W.cell? _ = _
              rw [h2]; rfl)
            (fun i c j p hi hj => by
              obtain ⟨v, _, h2, h3⟩ := (hes i c hi).1 j p hj
              rw [h2]; exact h3)
          rw [hlen] at this
          exact this
      | struct fs =>
        simp only [Bool.and_eq_true, List.all_eq_true, List.contains_iff_mem] at hok
        obtain ⟨xs, n, e1, rfl, hcl, hxl, hall⟩ := DataW.trod_struct hu h
        have e1 : fuel = n := by omega
        subst e1
        obtain ⟨ys, g1, g2⟩ := lay_cells (m := fuel) (F := fixOf W) hcl hok.1 (fun f hf => by
          obtain ⟨i, hi⟩ := List.getElem?_of_mem hf
          have hi' : fs[i]? = some f := by simpa using hi
          have h1 := hall i f hi'
          have hlt : i < xs.length := by
            rw [hxl]
            exact (Array.getElem?_eq_some_iff.1 hi').1
          rw [List.getElem?_eq_getElem hlt] at h1
          exact ih _ _ _ h1 (hok.2 f hf) (fun n hn => hwt n (by
            simp only [DataW.weights, hu]
            exact DataW.weights_mem_each (j := i) (t := f.type) (d := xs[i].1) (by rw [List.getElem?_map, hi]; rfl) (by rw [List.getElem?_map, List.getElem?_eq_getElem hlt]; rfl) n hn)))
        rw [List.drop_zero] at g1
        refine ⟨ys, g1, by rw [g1.1, hcl], fun f hf => ?_⟩
        have := (g2 f hf).2
        simpa using this
      | _ => cases hok

/-- One argument: a struct's cells or one value. -/
def argT (P : Program) (t : TypeId) (p : PV) : Prop := ∃ n xs, typed P n t xs ∧ (match P.underlying t with
  | some (.struct _) => p = .st xs
  | _ => ∃ x, xs = [x] ∧ p = .s x)
def argsT (P : Program) : List TypeId → List PV → Prop
  | [], [] => True
  | t :: ts, p :: ps => argT P t p ∧ argsT P ts ps
  | _, _ => False
def cx0 (W : World) : Cx := ⟨fun _ => 0, fun _ => 0, fixOf W, Ob.of []⟩
theorem rel0 (W : World) : Rel W (cx0 W) W where
  below := Below.refl _ _
  cell := fun b o v h => h
  lt := fun id h => by cases h
  inj := fun i j h => by cases h
  box := fun id ty cells h => by cases h
  sarr := fun id ty sz ver fz ap es h => by cases h
  map := fun id es h => by cases h
theorem arg_of {L : List TypeId} (hL : okT P L = true) {base : Nat} {r : Reach} {t : TypeId} {v : Value} {d : DataW H} {ps : List MemPlace} (ht : t ∈ L) (hv : Value.okWide P W r base t v) (h : DataW.Trod enc P W 0 spare held t v d ps) (hwt : ∀ n ∈ d.weights P t, n ≤ reachBytes) :
    ∃ p, PRel (cx0 W) p v ∧ argT P t p := by
  obtain ⟨fuel, h⟩ := h
  obtain ⟨xs, h1, h2⟩ := trod_sv hL fuel t _ _ h ht hwt
  have hok := List.all_eq_true.1 hL t ht
  have one : (∀ fs, P.underlying t ≠ some (.struct fs)) → v.cells = #[v] → ∃ p, PRel (cx0 W) p v ∧ argT P t p := by
    intro hns hc
    rw [hc] at h1
    have hl := h1.1
    cases xs with
    | nil => simp at hl
    | cons x xs =>
      have : xs = [] := by simpa using hl
      subst this
      refine ⟨.s x, .s x v (h1.2 0 x v rfl rfl), fuel, [x], h2, ?_⟩
      split
      · rename_i fs hfs; exact absurd hfs (hns fs)
      · exact ⟨x, rfl, rfl⟩
  have plain : (∀ fs, P.underlying t ≠ some (.struct fs)) → (∀ n e, P.underlying t ≠ some (.array n e)) → (∀ cs, v = .agg cs → False) → ∃ p, PRel (cx0 W) p v ∧ argT P t p := by
    intro h1 h2 h3
    refine one h1 ?_
    cases v with
    | agg cs => exact (h3 cs rfl).elim
    | _ => rfl
  cases hu : P.underlying t with
  | none => rw [hu] at hok; cases hok
  | some d =>
    cases d with
    | struct fs =>
      unfold Value.okWide at hv
      rw [hu] at hv
      obtain ⟨cs, rfl, _, _⟩ := hv
      refine ⟨.st xs, ?_, fuel, xs, h2, by rw [hu]⟩
      have hl := h1.1
      refine .agg _ _ (by simpa [Value.cells] using hl) (fun i p hp => ?_)
      rw [List.getElem?_map] at hp
      cases hx : xs[i]? with
      | none => rw [hx] at hp; cases hp
      | some x =>
        rw [hx] at hp
        simp at hp
        subst hp
        have hi : i < cs.size := by
          have := (List.getElem?_eq_some_iff.1 hx).1
          simp [Value.cells] at hl
          omega
        refine .s x _ (h1.2 i x _ hx ?_)
        simp [Value.cells, Array.getD_eq_getD_getElem?, hi]
    | array n e => rw [hu] at hok; cases hok
    | _ =>
      refine plain (fun fs h => by rw [hu] at h; cases h) (fun n e h => by rw [hu] at h; cases h) (fun cs e => ?_)
      subst e
      simp [Value.okWide, Cell.okWide, Cell.ok, hu] at hv
theorem args_of {L : List TypeId} (hL : okT P L = true) {base : Nat} {r : Reach} : ∀ {ts : List TypeId} {vs : List Value} {ds : List (DataW H)} {ps : List MemPlace}, (∀ t ∈ ts, t ∈ L) → (∀ (j : Nat) t v, ts[j]? = some t → vs[j]? = some v → Value.okWide P W r base t v) →
    DataW.TrodAll enc P W 0 spare held ts vs ds ps → (∀ n ∈ DataW.weightsEach P ts ds, n ≤ reachBytes) → ∃ args : List PV, args.length = vs.length ∧ (∀ (i : Nat) p v, args[i]? = some p → vs[i]? = some v → PRel (cx0 W) p v) ∧ argsT P ts args
  | [], vs, ds, ps, hts, hv, h, _ => by
    obtain ⟨rfl, rfl, rfl⟩ := trodAll_nil h
    exact ⟨[], rfl, (fun i p v h => by simp at h), trivial⟩
  | t :: ts, vs, ds, ps, hts, hv, h, hwt => by
    obtain ⟨v, vs1, d, ds1, a, b, rfl, rfl, rfl, h1, h2⟩ := trodAll_cons h
    obtain ⟨p, g1, g2⟩ := arg_of hL (hts t (List.mem_cons_self ..)) (hv 0 t v rfl rfl) h1 (fun n hn => hwt n (by simp only [DataW.weightsEach, List.mem_append]; exact .inl hn))
    obtain ⟨args, k1, k2, k3⟩ := args_of hL (fun u hu => hts u (List.mem_cons_of_mem _ hu)) (fun j u w hu hw => hv (j + 1) u w (by simpa using hu) (by simpa using hw)) h2 (fun n hn => hwt n (by simp only [DataW.weightsEach, List.mem_append]; exact .inr hn))
    refine ⟨p :: args, by simp [k1], fun i q u hq hu => ?_, g2, k3⟩
    cases i with
    | zero => simp at hq hu; subst hq; subst hu; exact g1
    | succ i => exact k2 i q u (by simpa using hq) (by simpa using hu)

/-- The machine's answer is the call's. -/
theorem law_calls {E : Env} {f : FuncId} {vals : Array Value} {args : List PV} {H' : Ob} {n' : Nat} (hm : E.P.follows .mixedOrders = true) (hC : CodesOk E) (hG : GOk E (fixOf W)) (hX : ExtOk E W (fixOf W)) (ha : args.length = vals.size)
    (hr : ∀ (i : Nat) p, args[i]? = some p → PRel (cx0 W) p (vals.getD i undef)) (h : runL E f args (Ob.of []) 0 = some (.ret (.bool true), H', n')) :
    Calls E.P f vals W fun e W' => e = .returned (.bool true) ∧ Below W.heap.size W W' := by
  obtain ⟨N, hN⟩ := lim_eq.1 h
  obtain ⟨_, hc⟩ := runF_ok (w0 := W) (F0 := fixOf W) hm hG hX hC N f args _ _ _ _ _ (hN N (Nat.le_refl _))
  refine (hc (cx0 W) W vals rfl (fun j _ => rfl) (rel0 W) (fun _ _ _ h => h) ⟨ha, hr⟩).mono fun e W' hp => ?_
  obtain ⟨C', _, _, _, hR, _, ho⟩ := hp
  refine ⟨?_, hR.below⟩
  cases e with
  | returned u =>
    have ho : PRel C' (.bool true) u := ho
    cases ho with
    | s p v h => cases h; rfl
  | _ => exact ho.elim
theorem trodAll_below {ts : List TypeId} (hl : laidOutB P = true) (hts : ∀ t ∈ ts, P.readableRec t = true ∧ t < P.types.size) {W' : World} (hb : Below W.heap.size W W') : ∀ {vs : List Value} {ds : List (DataW H)} {ps : List MemPlace},
    DataW.TrodAll enc P W 0 (fun _ => true) true ts vs ds ps → (∀ x ∈ ps, x.block < W.heap.size) → DataW.TrodAll enc P W' 0 (fun b => decide (b < W.heap.size)) true ts vs ds ps := by
  induction ts with
  | nil =>
    intro vs ds ps h _
    obtain ⟨rfl, rfl, rfl⟩ := trodAll_nil h
    exact h
  | cons t ts ih =>
    intro vs ds ps h hlt
    obtain ⟨v, vs1, d, ds1, a, b, rfl, rfl, rfl, h1, h2⟩ := trodAll_cons h
    obtain ⟨k1, k2⟩ := hts t (List.mem_cons_self ..)
    exact ⟨a, b, Below.trod hl k1 k2 h1 hb (fun x hx => hlt x (List.mem_append_left _ hx)), ih (fun u hu => hts u (List.mem_cons_of_mem _ hu)) h2 (fun x hx => hlt x (List.mem_append_right _ hx)), rfl⟩

/-- What a law's statement asks of each call. -/
theorem law_contract_at {C : Checked} {E : Env} {s : ChangeSpec} {f : FuncId} {fn : Func} {tb : TypeId} {L : List TypeId} (hE : E.P = C.prog) (hm : C.prog.follows .mixedOrders = true) (hC : CodesOk E) (hv : s.vars = []) (hl : laidOutB C.prog = true) (hL : okT C.prog L = true)
    (hts : ∀ t ∈ fn.params.toList, t ∈ L ∧ C.prog.readableRec t = true ∧ t < C.prog.types.size) (hres : fn.resultTypes = #[tb]) (htb : C.prog.underlying tb = some .bool)
    (hspec : ∀ ds : List (DataW H), ds.length = fn.params.size → (s.fn H ds).results = [.lit (.bool true)] ∧ (s.fn H ds).args = ds ∧ (s.fn H ds).vars = [])
    (W : World) (hlaw : ∀ args, argsT C.prog fn.params.toList args → GOk E (fixOf W) ∧ ExtOk E W (fixOf W) ∧ ∃ H' n', runL E f args (Ob.of []) 0 = some (.ret (.bool true), H', n'))
    (base : Nat) (args : Array Value) (ds gs : List (DataW H)) (before : List MemPlace) (hval : ∀ (j : Nat) t v, fn.params[j]? = some t → args[j]? = some v → Value.okWide C.prog W .any base t v)
    (hW : DataW.Whole enc C.prog fn.params.toList s.vars false W args.toList ds gs before)
    (hz : (DataW.weightsEach C.prog (fn.params.toList ++ s.plain.varTypes C.prog) (ds ++ gs)).all (· ≤ reachBytes) = true) :
    Calls C.prog f args W fun e W' => ∃ v, e = .returned v ∧ s.post enc C.prog fn false true false false W args v W' := by
  have hW' := hW
  obtain ⟨p, q, hA, hV, rfl, hfz, hnd⟩ := hW
  rw [hv] at hV
  obtain ⟨rfl, rfl⟩ := trodVars_none hV
  obtain ⟨as, h1, h2, h3⟩ := args_of hL (fun t ht => (hts t ht).1) (fun j t v ht hv => hval j t v (by simpa using ht) (by simpa using hv)) hA (fun n hn => by simpa using List.all_eq_true.1 hz n (weights_each_append hn))
  obtain ⟨g1, g2, H', n', g3⟩ := hlaw as h3
  rw [List.append_nil] at hW'
  have hlt : ∀ x ∈ p, x.block < W.heap.size := hW'.lt
  have hc := law_calls (vals := args) (by rw [hE]; exact hm) hC g1 g2 (by simpa using h1) (fun i x hx => by
    have hi : i < as.length := (List.getElem?_eq_some_iff.1 hx).1
    have hi' : i < args.size := by simpa using (by omega : i < args.toList.length)
    refine h2 i x _ hx ?_
    simp [Array.getD_eq_getD_getElem?, hi']) g3
  rw [hE] at hc
  refine hc.mono fun e W' ⟨he, hb⟩ => ⟨.bool true, he, ?_⟩
  have hdl : ds.length = fn.params.size := by
    have : ∀ {ts : List TypeId} {vs : List Value} {ds : List (DataW H)} {ps : List MemPlace}, DataW.TrodAll enc C.prog W 0 (fun _ => true) true ts vs ds ps → ds.length = ts.length := by
      intro ts
      induction ts with
      | nil => intro vs ds ps h; obtain ⟨rfl, rfl, rfl⟩ := trodAll_nil h; rfl
      | cons t ts ih =>
        intro vs ds ps h
        obtain ⟨v, vs1, d, ds1, a, b, rfl, rfl, rfl, h1, h2⟩ := trodAll_cons h
        simp [ih h2]
    rw [this hA]
    simp
  obtain ⟨s1, s2, s3⟩ := hspec ds hdl
  refine ⟨ds, [], p, [], p, [], hW', ?_, ?_, ?_, hb.frame _, fun h => by cases h⟩
  · rw [List.append_nil, s1, hres]
    exact ⟨[], [], shut_bool htb true, rfl, rfl⟩
  · rw [List.append_nil, s2]
    exact trodAll_below hl (fun t ht => (hts t ht).2) hb hA hlt
  · rw [List.append_nil, s3, hv]
    rfl
theorem law_contract {C : Checked} {E : Env} {s : ChangeSpec} {f : FuncId} {fn : Func} {tb : TypeId} {L : List TypeId} (hE : E.P = C.prog) (hm : C.prog.follows .mixedOrders = true) (hC : CodesOk E) (hv : s.vars = []) (hl : laidOutB C.prog = true) (hL : okT C.prog L = true)
    (hts : ∀ t ∈ fn.params.toList, t ∈ L ∧ C.prog.readableRec t = true ∧ t < C.prog.types.size) (hres : fn.resultTypes = #[tb]) (htb : C.prog.underlying tb = some .bool)
    (hspec : ∀ ds : List (DataW H), ds.length = fn.params.size → (s.fn H ds).results = [.lit (.bool true)] ∧ (s.fn H ds).args = ds ∧ (s.fn H ds).vars = [])
    (hlaw : ∀ (W : World) args, argsT C.prog fn.params.toList args → GOk E (fixOf W) ∧ ExtOk E W (fixOf W) ∧ ∃ H' n', runL E f args (Ob.of []) 0 = some (.ret (.bool true), H', n'))
    (W : World) (base : Nat) (args : Array Value) (ds gs : List (DataW H)) (before : List MemPlace) (hval : ∀ (j : Nat) t v, fn.params[j]? = some t → args[j]? = some v → Value.okWide C.prog W .any base t v)
    (hW : DataW.Whole enc C.prog fn.params.toList s.vars false W args.toList ds gs before)
    (hz : (DataW.weightsEach C.prog (fn.params.toList ++ s.plain.varTypes C.prog) (ds ++ gs)).all (· ≤ reachBytes) = true) :
    Calls C.prog f args W fun e W' => ∃ v, e = .returned v ∧ s.post enc C.prog fn false true false false W args v W' :=
  law_contract_at hE hm hC hv hl hL hts hres htb hspec W (hlaw W) base args ds gs before hval hW hz
end
end Go.Vm
end
