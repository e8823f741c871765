/- One operation as statements, joined; a region. -/
import Derived.Test.YtfgkhgkgaedcmaaVmZE
set_option linter.unusedVariables false
set_option linter.unusedSimpArgs false
namespace Go.Vm

section
variable {E : Env} {D : List Nat}

/-- What an operation's statements come to, against the operation itself. -/
def StepOk (E : Env) (draw : Bool) (D : List Nat) (S S1 : List Pe) (o : MOper) (rest : List St1) (T : Nat → PV) (H : Ob) (n : Nat) (r : Ex × St) : Prop :=
  (∃ T1 H1 n1, sts E draw rest T1 H1 n1 = some r ∧ Su S1 T1 H1 ∧ ((∀ p ∈ S1, Ok T1 H1 p) → (∀ p ∈ S, Ok T H p) ∧ ∀ T', Sim D S T T' H → ∃ T1', stepM E (calL E) (runL E) draw o T' H n = some (.go T1' H1 n1) ∧ Sim D S1 T1 T1' H1)) ∨
  (draw = false ∧ ∃ v Tp Hp np, r = (.panic v, ⟨Tp, Hp, np⟩) ∧ (∀ p ∈ S, Ok T H p) ∧ ∀ T', Sim D S T T' H → ∃ Tp', stepM E (calL E) (runL E) draw o T' H n = some (.panic v Tp' Hp np))

theorem putT_ne {T : Nat → PV} {d : Option Nat} {v : PV} {i : Nat} (h : ∀ x, d = some x → i ≠ x) : putT T d v i = T i := by
  cases d with
  | none => rfl
  | some x => exact if_neg (h x rfl)
theorem putT_both {T T' : Nat → PV} {d : Option Nat} {v : PV} {i : Nat} (h : T' i = T i) : putT T' d v i = putT T d v i := by
  cases d with
  | none => exact h
  | some x =>
    simp only [putT, upd]
    split
    · rfl
    · exact h
/-- Those that outlive a statement. -/
theorem Sim.kept {S S1 : List Pe} {T T' : Nat → PV} {H H1 : Ob} {d : Option Nat} {hp : Bool} {v : PV} (hI : Inv D S) (hS : Sim D S T T' H) (hd : ∀ x, d = some x → D.contains x = false) (hH : hp = false → H1 = H)
    (hsub : ∀ p' ∈ S1, ∃ p ∈ S, mentions d hp p = false ∧ Same p' p) : Sim D S1 (putT T d v) (putT T' d v) H1 where
  out := fun i hi => putT_both (hS.out i hi)
  ent := fun p' hp' => by
    obtain ⟨p, hpS, hm, hs⟩ := hsub p' hp'
    obtain ⟨h1, h2⟩ := mentions_keep (T := T) (H := H) (H1 := H1) (v := v) hm hH
    have hne : putT T' d v p'.d = T' p.d := by
      rw [hs.1]
      refine putT_ne (fun x hx e => ?_)
      have := hI.mem p hpS
      rw [e, hd x hx] at this
      cases this
    rw [hs.2.2.1, hs.2.2.2, h1, h2, hne]
    exact hS.ent p hpS

theorem pend_ok {draw : Bool} {S S1 : List Pe} {o : MOper} {l1 rest : List St1} {T : Nat → PV} {H : Ob} {n : Nat} {r : Ex × St} {d : Nat} (hI : Inv D S) (hsu : Su S T H) (ho : o.d = some d) (hD : D.contains d = true) (hp : isPure o.op = true)
    (h : (if (S.any fun p => p.d == d) then none else bnd (gdOf D S o.g) fun g => bnd (mkX D S o.g o.op) fun e =>
        some ([St1.tick 1], ⟨d, o.g, g, e, none, false⟩ :: S.map fun p => if p.cv.isNone && cvd S o.g o.op p then { p with cv := some d } else p)) = some (l1, S1))
    (hr : sts E draw (l1 ++ rest) T H n = some r) : Inv D S1 ∧ StepOk E draw D S S1 o rest T H n r := by
  split at h
  · cases h
  · rename_i hfresh
    obtain ⟨g, hg, h⟩ := bnd_eq_some.1 h
    obtain ⟨e, he, h⟩ := bnd_eq_some.1 h
    injection h with h
    injection h with h1 h2
    subst h1
    let f : Pe → Pe := fun p => if p.cv.isNone && cvd S o.g o.op p then { p with cv := some d } else p
    have hlk : Lk f := by
      intro p
      by_cases hc : (p.cv.isNone && cvd S o.g o.op p) = true
      · have : f p = { p with cv := some d } := if_pos hc
        rw [this]
        exact ⟨rfl, rfl, rfl, rfl⟩
      · have : f p = p := if_neg hc
        rw [this]
        exact ⟨rfl, rfl, rfl, rfl⟩
    have hsure : ∀ p, (f p).sure = p.sure := by
      intro p
      show (if p.cv.isNone && cvd S o.g o.op p then { p with cv := some d } else p).sure = p.sure
      split <;> rfl
    have hne : ∀ p ∈ S, p.d ≠ d := by
      intro p hp e
      apply hfresh
      exact List.any_eq_true.2 ⟨p, hp, by simp [e]⟩
    let new : Pe := ⟨d, o.g, g, e, none, false⟩
    have hS1 : S1 = new :: S.map f := h2.symm
    subst hS1
    have hlook : ∀ i, i ≠ d → look1 (new :: S.map f) i = (look1 S i).map f := by
      intro i hi
      have : (new.d == i) = false := by simp [new]; exact fun e => hi e.symm
      rw [← look1_map hlk]
      unfold look1
      simp only [List.find?_cons, this]
    have hgd : ∀ G g', gdOf D S G = some g' → gdOf D (new :: S.map f) G = some g' := by
      intro G g' hg'
      cases G with
      | none => exact hg'
      | some sw =>
        obtain ⟨s, w⟩ := sw
        simp only [gdOf] at hg' ⊢
        split at hg'
        · rename_i hDs
          rw [if_pos hDs]
          split at hg'
          · rename_i q hq
            obtain ⟨q1, q2⟩ := look1_mem hq
            rw [hlook s (by rw [← q2]; exact hne q q1), hq]
            simp only [Option.map_some, (hlk q).2.2.1, (hlk q).2.2.2]
            exact hg'
          · cases hg'
        · rename_i hDs
          rw [if_neg hDs]
          exact hg'
    have hinv : Inv D (new :: S.map f) := by
      refine ⟨fun p hp' => ?_, fun p hp' => ?_, fun p hp' => ?_, ⟨(fun k hk => by cases hk), ?_⟩⟩
      · rcases List.mem_cons.1 hp' with e1 | hp'
        · rw [e1]; exact hD
        · obtain ⟨q, hq, e1⟩ := List.mem_map.1 hp'
          rw [← e1, (hlk q).1]
          exact hI.mem q hq
      · rcases List.mem_cons.1 hp' with e1 | hp'
        · rw [e1]
          unfold look1
          simp
        · obtain ⟨q, hq, e1⟩ := List.mem_map.1 hp'
          rw [← e1, (hlk q).1, hlook q.d (hne q hq), hI.uniq q hq]
          rfl
      · rcases List.mem_cons.1 hp' with e1 | hp'
        · rw [e1]
          exact hgd _ _ hg
        · obtain ⟨q, hq, e1⟩ := List.mem_map.1 hp'
          rw [← e1, (hlk q).2.1, (hlk q).2.2.1]
          exact hgd _ _ (hI.gd q hq)
      · refine hI.cv.mapf hlk (fun q hq => by cases hq) (fun p hp' k hk => ?_)
        have hk : (if p.cv.isNone && cvd S o.g o.op p then { p with cv := some d } else p).cv = some k := hk
        split at hk
        · rename_i hc
          simp only [Bool.and_eq_true] at hc
          injection hk with hk
          exact .inr ⟨new, List.mem_cons_self .., hk, cvd_imp hI hg he hp' hc.2⟩
        · exact .inl hk
    refine ⟨hinv, .inl ⟨T, H, n + 1, ?_, fun p hp' hs => ?_, fun hok => ⟨fun p hp' => ?_, fun T' hS => ?_⟩⟩⟩
    · simpa only [List.cons_append, List.nil_append, sts, st1, bnd_some] using hr
    · rcases List.mem_cons.1 hp' with e1 | hp'
      · rw [e1] at hs; cases hs
      · obtain ⟨q, hq, e1⟩ := List.mem_map.1 hp'
        rw [← e1, hsure] at hs
        have := hsu q hq hs
        unfold Ok at this ⊢
        rw [← e1, (hlk q).2.2.1, (hlk q).2.2.2]
        exact this
    · have := hok (f p) (List.mem_cons_of_mem _ (List.mem_map.2 ⟨p, hp', rfl⟩))
      unfold Ok at this ⊢
      rw [(hlk p).2.2.1, (hlk p).2.2.2] at this
      exact this
    · have hokS : ∀ p ∈ S, Ok T H p := fun p hp' => by
        have := hok (f p) (List.mem_cons_of_mem _ (List.mem_map.2 ⟨p, hp', rfl⟩))
        unfold Ok at this ⊢
        rw [(hlk p).2.2.1, (hlk p).2.2.2] at this
        exact this
      have hw := wanted_ok hI hS hokS hg
      have hoknew := hok new (List.mem_cons_self ..)
      have simS : ∀ v : PV, (Holds T H g → ∀ u, evX T H e = some u → v = u) → (¬ Holds T H g → v = .undef) → Sim D (new :: S.map f) T (putT T' (some d) v) H := by
        intro v hv1 hv2
        refine ⟨fun i hi => ?_, fun p hp' => ?_⟩
        · rw [putT_ne (fun x hx e1 => by
            injection hx with hx
            rw [e1, ← hx, hD] at hi
            cases hi)]
          exact hS.out i hi
        · rcases List.mem_cons.1 hp' with e1 | hp'
          · subst e1
            have : putT T' (some d) v new.d = v := if_pos rfl
            rw [this]
            exact ⟨hv1, hv2⟩
          · obtain ⟨q, hq, e1⟩ := List.mem_map.1 hp'
            rw [← e1, (hlk q).1, (hlk q).2.2.1, (hlk q).2.2.2, putT_ne (fun x hx e2 => by
              injection hx with hx
              exact hne q hq (e2.trans hx.symm))]
            exact hS.ent q hq
      obtain ⟨od, og, oop⟩ := o
      simp only at ho hp he hg hw
      subst ho
      rw [stepM_plain (isPure_plain hp)]
      simp only
      by_cases hh : Holds T H g
      · rw [if_pos (hw.2 hh)]
        obtain ⟨v, hv⟩ := hoknew hh
        rw [mkX_ok hI hS hg hh hp he hv]
        exact ⟨_, rfl, simS v (fun _ u hu => by
          have hv' : evX T H e = some v := hv
          rw [hv'] at hu
          exact Option.some.inj hu) (fun hn => absurd hh hn)⟩
      · rw [if_neg (fun hw' => hh (hw.1 hw'))]
        exact ⟨_, rfl, simS .undef (fun hh' => absurd hh' hh) (fun _ => rfl)⟩
end
end Go.Vm
