/- Expressions at two states. -/
import Derived.Test.YtfgkhgkgaedcmaaVmZA
set_option linter.unusedVariables false
set_option linter.unusedSimpArgs false
namespace Go.Vm

theorem over_in {T T2 : Nat → PV} {i : Nat} : ∀ {l : List (Nat × PV)}, i ∈ l.map (·.1) → over T2 l i = over T l i
  | [], h => by cases h
  | (j, v) :: r, h => by
    simp only [over, upd]
    split
    · rfl
    · rename_i hne
      rcases List.mem_cons.1 h with e | h
      · exact absurd e hne
      · exact over_in h
theorem over_out {T : Nat → PV} {i : Nat} : ∀ {l : List (Nat × PV)}, i ∉ l.map (·.1) → over T l i = T i
  | [], h => rfl
  | (j, v) :: r, h => by
    simp only [over, upd]
    rw [if_neg (fun e : i = j => h (by rw [e]; exact List.mem_cons_self ..))]
    exact over_out (fun hm => h (List.mem_cons_of_mem _ hm))
theorem evS_keys {T : Nat → PV} {H : Ob} : ∀ {l : List (Nat × Xp)} {q : List (Nat × PV)}, evS T H l = some q → q.map (·.1) = l.map (·.1)
  | [], q, h => by simp only [evS] at h; injection h with h; subst h; rfl
  | (i, e) :: r, q, h => by
    simp only [evS] at h
    obtain ⟨v, h1, h⟩ := bnd_eq_some.1 h
    obtain ⟨w, h2, h⟩ := bnd_eq_some.1 h
    injection h with h
    subst h
    simp only [List.map_cons, evS_keys h2]
mutual
/-- An expression looks at its places, and at objects only where it says so. -/
theorem evX_congr {T T2 : Nat → PV} {H H2 : Ob} : ∀ {e : Xp}, (∀ i ∈ slotsX e, T2 i = T i) → (heapX e = true → H2 = H) → evX T2 H2 e = evX T H e
  | .x m, hs, hh => by
    simp only [evX]
    rw [valX_congr (fun i hi => hs i (by simpa only [slotsX] using hi))]
  | .pick c a b, hs, hh => by
    simp only [slotsX, List.mem_append] at hs
    simp only [heapX, Bool.or_eq_true] at hh
    simp only [evX]
    rw [evX_congr (e := c) (fun i hi => hs i (.inl (.inl hi))) (fun h => hh (.inl (.inl h))), evX_congr (e := a) (fun i hi => hs i (.inl (.inr hi))) (fun h => hh (.inl (.inr h))), evX_congr (e := b) (fun i hi => hs i (.inr hi)) (fun h => hh (.inr h))]
  | .op o l, hs, hh => by
    simp only [slotsX, List.mem_append, List.mem_filter] at hs
    simp only [heapX, Bool.or_eq_true, Bool.not_eq_true', beq_eq_false_iff_ne] at hh
    simp only [evX]
    rw [evS_congr (l := l) (fun i hi => hs i (.inr hi)) (fun h => hh (.inr h))]
    cases hq : evS T H l with
    | none => rfl
    | some q =>
      simp only [bnd_some]
      have ho : ∀ i ∈ slotsOf o, over T2 q i = over T q i := by
        intro i hi
        by_cases hm : i ∈ q.map (·.1)
        · exact over_in hm
        · rw [over_out hm, over_out hm]
          refine hs i (.inl ⟨hi, ?_⟩)
          rw [evS_keys hq] at hm
          simp only [Bool.not_eq_true', List.any_eq_false, beq_iff_eq]
          intro p hp e
          exact hm (List.mem_map.2 ⟨p, hp, e⟩)
      rw [mstep_congr ho]
      by_cases hk : kindM o = 0
      · exact mstep_zero hk
      · rw [hh (.inl hk)]
theorem evS_congr {T T2 : Nat → PV} {H H2 : Ob} : ∀ {l : List (Nat × Xp)}, (∀ i ∈ slotsS l, T2 i = T i) → (heapS l = true → H2 = H) → evS T2 H2 l = evS T H l
  | [], hs, hh => rfl
  | (i, e) :: r, hs, hh => by
    simp only [slotsS, List.mem_append] at hs
    simp only [heapS, Bool.or_eq_true] at hh
    simp only [evS]
    rw [evX_congr (e := e) (fun i hi => hs i (.inl hi)) (fun h => hh (.inl h)), evS_congr (l := r) (fun i hi => hs i (.inr hi)) (fun h => hh (.inr h))]
end
def Holds (T : Nat → PV) (H : Ob) (g : List (Xp × Bool)) : Prop := ∀ x ∈ g, evX T H x.1 = some (.s (.bool x.2))
theorem evG_holds {T : Nat → PV} {H : Ob} : ∀ {g : List (Xp × Bool)} {b : Bool}, evG T H g = some b → (b = true ↔ Holds T H g)
  | [], b, h => by
    simp only [evG] at h
    injection h with h
    subst h
    exact ⟨fun _ x hx => (by cases hx), fun _ => rfl⟩
  | (e, w) :: r, b, h => by
    simp only [evG] at h
    obtain ⟨v, h1, h⟩ := bnd_eq_some.1 h
    split at h
    · rename_i t
      split at h
      · rename_i hbw
        have hw : t = w := by simpa using hbw
        have ih := evG_holds h
        rw [ih]
        constructor
        · intro hr x hx
          rcases List.mem_cons.1 hx with e1 | hx
          · subst e1; rw [← hw]; exact h1
          · exact hr x hx
        · intro ha x hx
          exact ha x (List.mem_cons_of_mem _ hx)
      · rename_i hbw
        injection h with h
        subst h
        constructor
        · intro hf; cases hf
        · intro ha
          have := ha (e, w) (List.mem_cons_self ..)
          simp only at this
          rw [h1] at this
          injection this with this
          injection this with this
          injection this with this
          exact absurd (by simp [this]) hbw
    · cases h
theorem evG_true {T : Nat → PV} {H : Ob} : ∀ {g : List (Xp × Bool)}, Holds T H g → evG T H g = some true
  | [], h => rfl
  | (e, w) :: r, h => by
    simp only [evG, h (e, w) (List.mem_cons_self ..), bnd_some, beq_self_eq_true, if_true]
    exact evG_true (fun x hx => h x (List.mem_cons_of_mem _ hx))
/-- What a statement that turns a place leaves as it was. -/
theorem evX_keep {T : Nat → PV} {H H2 : Ob} {d : Option Nat} {v : PV} {hp : Bool} {e : Xp} (hd : ∀ x, d = some x → (slotsX e).contains x = false) (hh : hp = true → heapX e = false) (hH : hp = false → H2 = H) : evX (putT T d v) H2 e = evX T H e := by
  refine evX_congr (fun i hi => ?_) (fun h => ?_)
  · cases d with
    | none => rfl
    | some x =>
      simp only [putT, upd]
      rw [if_neg]
      intro e1
      subst e1
      have := hd i rfl
      simp [hi] at this
  · cases hp with
    | true => rw [hh rfl] at h; cases h
    | false => exact hH rfl
end Go.Vm
