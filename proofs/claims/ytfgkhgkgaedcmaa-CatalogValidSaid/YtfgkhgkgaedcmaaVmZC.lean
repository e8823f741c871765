/- The short-lived places that wait to be read: what is known of them. -/
import Derived.Test.YtfgkhgkgaedcmaaVmZB
set_option linter.unusedVariables false
set_option linter.unusedSimpArgs false
namespace Go.Vm

def Ok (T : Nat → PV) (H : Ob) (p : Pe) : Prop := Holds T H p.g → ∃ v, evX T H p.e = some v
def Imp (q p : Pe) : Prop := ∀ T H, Holds T H p.g → Holds T H q.g ∧ ((∃ v, evX T H q.e = some v) → ∃ v, evX T H p.e = some v)
/-- Each covered one is covered by one ahead of it. -/
def Cv : List Pe → List Pe → Prop
  | _, [] => True
  | F, p :: S => (∀ k, p.cv = some k → ∃ q ∈ F, q.d = k ∧ Imp q p) ∧ Cv (p :: F) S
structure Inv (D : List Nat) (S : List Pe) : Prop where
  mem : ∀ p ∈ S, D.contains p.d = true
  uniq : ∀ p ∈ S, look1 S p.d = some p
  gd : ∀ p ∈ S, gdOf D S p.gd = some p.g
  cv : Cv [] S
structure Sim (D : List Nat) (S : List Pe) (T T' : Nat → PV) (H : Ob) : Prop where
  out : ∀ i, D.contains i = false → T' i = T i
  ent : ∀ p ∈ S, (Holds T H p.g → ∀ v, evX T H p.e = some v → T' p.d = v) ∧ (¬ Holds T H p.g → T' p.d = .undef)
def Su (S : List Pe) (T : Nat → PV) (H : Ob) : Prop := ∀ p ∈ S, p.sure = true → Ok T H p
/-- Like one another, but for what is noted of them. -/
def Lk (f : Pe → Pe) : Prop := ∀ p, (f p).d = p.d ∧ (f p).gd = p.gd ∧ (f p).g = p.g ∧ (f p).e = p.e

theorem Cv.ok {T : Nat → PV} {H : Ob} : ∀ {F S : List Pe}, Cv F S → (∀ q ∈ F, Ok T H q) → (∀ p ∈ S, p.cv = none → Ok T H p) → ∀ p ∈ S, Ok T H p
  | F, [], hc, hF, hS, p, hp => by cases hp
  | F, p :: S, hc, hF, hS, r, hr => by
    have h0 : Ok T H p := by
      cases hcv : p.cv with
      | none => exact hS p (List.mem_cons_self ..) hcv
      | some k =>
        obtain ⟨q, hq, _, himp⟩ := hc.1 k hcv
        intro hh
        obtain ⟨h1, h2⟩ := himp T H hh
        exact h2 (hF q hq h1)
    rcases List.mem_cons.1 hr with e | hr
    · rw [e]; exact h0
    · exact Cv.ok hc.2 (fun q hq => by
        rcases List.mem_cons.1 hq with e | hq
        · rw [e]; exact h0
        · exact hF q hq) (fun p hp => hS p (List.mem_cons_of_mem _ hp)) r hr
theorem look1_mem {S : List Pe} {i : Nat} {p : Pe} (h : look1 S i = some p) : p ∈ S ∧ p.d = i := by
  unfold look1 at h
  exact ⟨List.mem_of_find?_eq_some h, by simpa using List.find?_some h⟩
theorem look1_map {f : Pe → Pe} (hf : Lk f) {i : Nat} : ∀ {S : List Pe}, look1 (S.map f) i = (look1 S i).map f
  | [] => rfl
  | p :: S => by
    have ih := look1_map hf (i := i) (S := S)
    unfold look1 at ih ⊢
    simp only [List.map_cons, List.find?_cons, (hf p).1]
    cases h : (p.d == i) with
    | true => rfl
    | false => exact ih
theorem gdOf_map {D : List Nat} {f : Pe → Pe} (hf : Lk f) {S : List Pe} {G : Option (Nat × Bool)} : gdOf D (S.map f) G = gdOf D S G := by
  cases G with
  | none => rfl
  | some gw =>
    obtain ⟨g, w⟩ := gw
    simp only [gdOf]
    rw [look1_map hf]
    cases look1 S g with
    | none => rfl
    | some p => simp only [Option.map_some, (hf p).2.2.1, (hf p).2.2.2]
theorem Holds.append {T : Nat → PV} {H : Ob} {a b : List (Xp × Bool)} : Holds T H (a ++ b) ↔ Holds T H a ∧ Holds T H b := by
  unfold Holds
  constructor
  · intro h
    exact ⟨fun x hx => h x (List.mem_append_left _ hx), fun x hx => h x (List.mem_append_right _ hx)⟩
  · intro h x hx
    rcases List.mem_append.1 hx with hx | hx
    · exact h.1 x hx
    · exact h.2 x hx
theorem Holds.one {T : Nat → PV} {H : Ob} {e : Xp} {w : Bool} : Holds T H [(e, w)] ↔ evX T H e = some (.s (.bool w)) := by
  unfold Holds
  constructor
  · intro h; exact h (e, w) (List.mem_cons_self ..)
  · intro h x hx
    rcases List.mem_cons.1 hx with e1 | hx
    · subst e1; exact h
    · cases hx
theorem Holds.nil {T : Nat → PV} {H : Ob} : Holds T H [] := fun x hx => by cases hx
def Same (p q : Pe) : Prop := p.d = q.d ∧ p.gd = q.gd ∧ p.g = q.g ∧ p.e = q.e
theorem Imp.same {q q' p p' : Pe} (hq : Same q' q) (hp : Same p' p) (h : Imp q p) : Imp q' p' := by
  intro T H hh
  rw [hp.2.2.1] at hh
  obtain ⟨h1, h2⟩ := h T H hh
  rw [hq.2.2.1, hq.2.2.2, hp.2.2.2]
  exact ⟨h1, h2⟩
theorem Cv.front {S : List Pe} : ∀ {F F' : List Pe}, Cv F S → (∀ q ∈ F, ∃ q' ∈ F', Same q' q) → Cv F' S := by
  induction S with
  | nil => intro F F' _ _; trivial
  | cons p S ih =>
    intro F F' hc hF
    refine ⟨fun k hk => ?_, ih hc.2 (fun q hq => ?_)⟩
    · obtain ⟨q, hq, e, himp⟩ := hc.1 k hk
      obtain ⟨q', hq', hs⟩ := hF q hq
      exact ⟨q', hq', hs.1.trans e, himp.same hs ⟨rfl, rfl, rfl, rfl⟩⟩
    · rcases List.mem_cons.1 hq with e | hq
      · exact ⟨p, List.mem_cons_self .., by rw [e]; exact ⟨rfl, rfl, rfl, rfl⟩⟩
      · obtain ⟨q', hq', hs⟩ := hF q hq
        exact ⟨q', List.mem_cons_of_mem _ hq', hs⟩
/-- What is noted may be turned, where each that is covered stays so. -/
theorem Cv.mapf {f : Pe → Pe} (hf : Lk f) {S : List Pe} : ∀ {F F' : List Pe}, Cv F S → (∀ q ∈ F, ∃ q' ∈ F', Same q' q) → (∀ p ∈ S, ∀ k, (f p).cv = some k → p.cv = some k ∨ ∃ q ∈ F', q.d = k ∧ Imp q p) → Cv F' (S.map f) := by
  induction S with
  | nil => intro F F' _ _ _; trivial
  | cons p S ih =>
    intro F F' hc hF hk
    have hs : Same (f p) p := hf p
    refine ⟨fun k hkk => ?_, ih hc.2 (fun q hq => ?_) (fun r hr k hkk => ?_)⟩
    · rcases hk p (List.mem_cons_self ..) k hkk with h1 | ⟨q, hq, e, himp⟩
      · obtain ⟨q, hq, e, himp⟩ := hc.1 k h1
        obtain ⟨q', hq', hs'⟩ := hF q hq
        exact ⟨q', hq', hs'.1.trans e, himp.same hs' hs⟩
      · exact ⟨q, hq, e, himp.same ⟨rfl, rfl, rfl, rfl⟩ hs⟩
    · rcases List.mem_cons.1 hq with e | hq
      · exact ⟨f p, List.mem_cons_self .., by rw [e]; exact hs⟩
      · obtain ⟨q', hq', hs'⟩ := hF q hq
        exact ⟨q', List.mem_cons_of_mem _ hq', hs'⟩
    · rcases hk r (List.mem_cons_of_mem _ hr) k hkk with h1 | ⟨q, hq, e, himp⟩
      · exact .inl h1
      · exact .inr ⟨q, List.mem_cons_of_mem _ hq, e, himp⟩
theorem Inv.map {D : List Nat} {S : List Pe} {f : Pe → Pe} (hf : Lk f) (h : Inv D S) (hcv : ∀ p ∈ S, ∀ k, (f p).cv = some k → p.cv = some k) : Inv D (S.map f) where
  mem := fun p hp => by
    obtain ⟨q, hq, e⟩ := List.mem_map.1 hp
    rw [← e, (hf q).1]
    exact h.mem q hq
  uniq := fun p hp => by
    obtain ⟨q, hq, e⟩ := List.mem_map.1 hp
    rw [look1_map hf, ← e, (hf q).1, h.uniq q hq]
    rfl
  gd := fun p hp => by
    obtain ⟨q, hq, e⟩ := List.mem_map.1 hp
    rw [gdOf_map hf, ← e, (hf q).2.1, (hf q).2.2.1]
    exact h.gd q hq
  cv := h.cv.mapf hf (fun q hq => by cases hq) (fun p hp k hk => .inl (hcv p hp k hk))

/-! ### those that a statement turns -/
theorem mentions_guard {d : Option Nat} {hp : Bool} {p q : Pe} {w : Bool} (h : mentions d hp p = false) (hg : p.g = q.g ++ [(q.e, w)]) : mentions d hp q = false := by
  unfold mentions at h ⊢
  simp only [hg, List.any_append, List.any_cons, List.any_nil, Bool.or_false, Bool.or_eq_false_iff] at h ⊢
  exact ⟨h.2.2, h.2.1⟩
theorem look1_filter {S : List Pe} {P : Pe → Bool} {p : Pe} (hu : look1 S p.d = some p) (hP : P p = true) : look1 (S.filter P) p.d = some p := by
  induction S with
  | nil => simp [look1] at hu
  | cons q S ih =>
    unfold look1 at hu ih ⊢
    simp only [List.find?_cons] at hu
    cases hq : (q.d == p.d) with
    | true =>
      rw [hq] at hu
      injection hu with hu
      subst hu
      simp only [List.filter_cons, hP, if_true, List.find?_cons, hq]
    | false =>
      rw [hq] at hu
      simp only [List.filter_cons]
      split
      · simp only [List.find?_cons, hq]
        exact ih hu
      · exact ih hu
def deadf (dead : List Nat) (p : Pe) : Pe := match p.cv with
  | some k => if dead.contains k then { p with cv := none } else p
  | none => p
theorem deadf_lk (dead : List Nat) : Lk (deadf dead) := by
  intro p
  unfold deadf
  split
  · split <;> exact ⟨rfl, rfl, rfl, rfl⟩
  · exact ⟨rfl, rfl, rfl, rfl⟩
theorem kill_eq (d : Option Nat) (hp : Bool) (S : List Pe) : kill d hp S = (S.filter fun p => !mentions d hp p).map (deadf ((S.filter (mentions d hp)).map (·.d))) := rfl
theorem Cv.kill {d : Option Nat} {hp : Bool} {dead : List Nat} {S : List Pe} : ∀ {F F' : List Pe}, Cv F S → (∀ q ∈ F, mentions d hp q = false → ∃ q' ∈ F', Same q' q) → (∀ q, q ∈ F ∨ q ∈ S → mentions d hp q = true → dead.contains q.d = true) →
    Cv F' ((S.filter fun p => !mentions d hp p).map (deadf dead)) := by
  induction S with
  | nil => intro F F' _ _ _; trivial
  | cons p S ih =>
    intro F F' hc hF hd
    have hd' : ∀ q, q ∈ p :: F ∨ q ∈ S → mentions d hp q = true → dead.contains q.d = true := fun q hq => hd q (by
      rcases hq with hq | hq
      · rcases List.mem_cons.1 hq with e | hq
        · exact .inr (by rw [e]; exact List.mem_cons_self ..)
        · exact .inl hq
      · exact .inr (List.mem_cons_of_mem _ hq))
    cases hm : mentions d hp p with
    | true =>
      simp only [List.filter_cons, hm, Bool.not_true, Bool.false_eq_true, if_false]
      refine ih hc.2 (fun q hq hmq => ?_) hd'
      rcases List.mem_cons.1 hq with e | hq
      · rw [e, hm] at hmq; cases hmq
      · exact hF q hq hmq
    | false =>
      simp only [List.filter_cons, hm, Bool.not_false, if_true, List.map_cons]
      have hs : Same (deadf dead p) p := deadf_lk dead p
      refine ⟨fun k hk => ?_, ih hc.2 (fun q hq hmq => ?_) hd'⟩
      · have hpk : p.cv = some k ∧ dead.contains k = false := by
          unfold deadf at hk
          cases hcv : p.cv with
          | none => rw [hcv] at hk; simp only at hk; rw [hcv] at hk; cases hk
          | some k' =>
            rw [hcv] at hk
            simp only at hk
            split at hk
            · cases hk
            · rename_i hdk
              rw [hcv] at hk
              injection hk with hk
              subst hk
              exact ⟨rfl, by simpa using hdk⟩
        obtain ⟨q, hq, e, himp⟩ := hc.1 k hpk.1
        have hmq : mentions d hp q = false := by
          cases hmq : mentions d hp q with
          | false => rfl
          | true =>
            have := hd q (.inl hq) hmq
            rw [e, hpk.2] at this
            cases this
        obtain ⟨q', hq', hs'⟩ := hF q hq hmq
        exact ⟨q', hq', hs'.1.trans e, himp.same hs' hs⟩
      · rcases List.mem_cons.1 hq with e | hq
        · exact ⟨_, List.mem_cons_self .., by rw [e]; exact hs⟩
        · obtain ⟨q', hq', hs'⟩ := hF q hq hmq
          exact ⟨q', List.mem_cons_of_mem _ hq', hs'⟩
theorem Inv.kill {D : List Nat} {S : List Pe} {d : Option Nat} {hp : Bool} (h : Inv D S) : Inv D (kill d hp S) := by
  rw [kill_eq]
  have hlk := deadf_lk ((S.filter (mentions d hp)).map (·.d))
  have hmem : ∀ q, q ∈ S.filter (fun p => !mentions d hp p) → q ∈ S ∧ mentions d hp q = false := fun q hq => by
    have := List.mem_filter.1 hq
    exact ⟨this.1, by simpa using this.2⟩
  have huf : ∀ q, q ∈ S → mentions d hp q = false → look1 (S.filter fun p => !mentions d hp p) q.d = some q := fun q hq hm => look1_filter (h.uniq q hq) (by simp [hm])
  refine ⟨fun p hp' => ?_, fun p hp' => ?_, fun p hp' => ?_, ?_⟩
  · obtain ⟨q, hq, e⟩ := List.mem_map.1 hp'
    rw [← e, (hlk q).1]
    exact h.mem q (hmem q hq).1
  · obtain ⟨q, hq, e⟩ := List.mem_map.1 hp'
    rw [look1_map hlk, ← e, (hlk q).1, huf q (hmem q hq).1 (hmem q hq).2]
    rfl
  · obtain ⟨q, hq, e⟩ := List.mem_map.1 hp'
    rw [gdOf_map hlk, ← e, (hlk q).2.1, (hlk q).2.2.1]
    have hg := h.gd q (hmem q hq).1
    cases hgd : q.gd with
    | none => rw [hgd] at hg; exact hg
    | some gw =>
      obtain ⟨g, w⟩ := gw
      rw [hgd] at hg
      simp only [gdOf] at hg ⊢
      split at hg
      · rename_i hD
        rw [if_pos hD]
        split at hg
        · rename_i r hr
          injection hg with hg
          obtain ⟨hr1, hr2⟩ := look1_mem hr
          have := huf r hr1 (mentions_guard (hmem q hq).2 hg.symm)
          rw [hr2] at this
          rw [this, ← hg]
        · cases hg
      · rename_i hD
        rw [if_neg hD]
        exact hg
  · refine Cv.kill h.cv (fun q hq => by cases hq) (fun q hq hm => ?_)
    rcases hq with hq | hq
    · cases hq
    · have : q.d ∈ (S.filter (mentions d hp)).map (·.d) := List.mem_map.2 ⟨q, List.mem_filter.2 ⟨hq, hm⟩, rfl⟩
      simpa using this
end Go.Vm
