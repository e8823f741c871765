/- Reading a short-lived place gives what the old code would read. -/
import Derived.Test.YtfgkhgkgaedcmaaVmZC
set_option linter.unusedVariables false
set_option linter.unusedSimpArgs false
namespace Go.Vm

section
variable {D : List Nat} {S : List Pe} {T T' : Nat → PV} {H : Ob}

theorem rdS_cases {G : Option (Nat × Bool)} {i : Nat} {e : Xp} (h : rdS D S G i = some e) : (D.contains i = false ∧ e = .x (.t i)) ∨ (D.contains i = true ∧ ∃ p ∈ S, look1 S i = some p ∧ p.d = i ∧ p.e = e ∧ (p.gd = none ∨ p.gd = G)) := by
  unfold rdS at h
  split at h
  · rename_i hD
    split at h
    · rename_i p hp
      split at h
      · rename_i hg
        injection h with h
        obtain ⟨h1, h2⟩ := look1_mem hp
        simp only [Bool.or_eq_true, beq_iff_eq] at hg
        exact .inr ⟨hD, p, h1, hp, h2, h, hg⟩
      · cases h
    · cases h
  · rename_i hD
    injection h with h
    exact .inl ⟨by simpa using hD, h.symm⟩
theorem Inv.chain (hI : Inv D S) {p : Pe} (hp : p ∈ S) {G : Option (Nat × Bool)} {g : List (Xp × Bool)} (hg : gdOf D S G = some g) (h : p.gd = none ∨ p.gd = G) (hh : Holds T H g) : Holds T H p.g := by
  have h1 := hI.gd p hp
  rcases h with h | h
  · rw [h] at h1
    simp only [gdOf] at h1
    injection h1 with h1
    rw [← h1]
    exact Holds.nil
  · rw [h, hg] at h1
    injection h1 with h1
    rw [← h1]
    exact hh
theorem rdS_ok (hI : Inv D S) (hS : Sim D S T T' H) {G : Option (Nat × Bool)} {g : List (Xp × Bool)} (hg : gdOf D S G = some g) (hh : Holds T H g) {i : Nat} {e : Xp} {v : PV} (h : rdS D S G i = some e) (hv : evX T H e = some v) : T' i = v := by
  rcases rdS_cases h with ⟨hD, he⟩ | ⟨hD, p, hp, hl, hd, he, hgd⟩
  · subst he
    simp only [evX, valX] at hv
    injection hv with hv
    rw [hS.out i hD, hv]
  · rw [← hd]
    exact (hS.ent p hp).1 (hI.chain hp hg hgd hh) v (by rw [he]; exact hv)
theorem rdX_ok (hI : Inv D S) (hS : Sim D S T T' H) {G : Option (Nat × Bool)} {g : List (Xp × Bool)} (hg : gdOf D S G = some g) (hh : Holds T H g) {x : MX} {e : Xp} {v : PV} (h : rdX D S G x = some e) (hv : evX T H e = some v) : valX T' x = v := by
  cases x with
  | t i => exact rdS_ok hI hS hg hh h hv
  | c p =>
    simp only [rdX] at h
    injection h with h
    subst h
    simp only [evX, valX] at hv
    injection hv with hv
theorem rdL_mem {G : Option (Nat × Bool)} : ∀ {is : List Nat} {l : List (Nat × Xp)}, rdL D S G is = some l → (∀ x ∈ l, D.contains x.1 = true ∧ rdS D S G x.1 = some x.2) ∧ ∀ i ∈ is, D.contains i = true → i ∈ l.map (·.1)
  | [], l, h => by
    simp only [rdL] at h
    injection h with h
    subst h
    exact ⟨(fun x hx => by cases hx), (fun i hi => by cases hi)⟩
  | i :: r, l, h => by
    simp only [rdL] at h
    split at h
    · rename_i hD
      obtain ⟨e, h1, h⟩ := bnd_eq_some.1 h
      obtain ⟨q, h2, h⟩ := bnd_eq_some.1 h
      injection h with h
      obtain ⟨g1, g2⟩ := rdL_mem h2
      split at h
      · rename_i hany
        subst h
        refine ⟨g1, fun j hj hDj => ?_⟩
        rcases List.mem_cons.1 hj with e1 | hj
        · rw [e1]
          obtain ⟨x, hx, e2⟩ := List.any_eq_true.1 hany
          exact List.mem_map.2 ⟨x, hx, by simpa using e2⟩
        · exact g2 j hj hDj
      · subst h
        refine ⟨fun x hx => ?_, fun j hj hDj => ?_⟩
        · rcases List.mem_cons.1 hx with e1 | hx
          · subst e1; exact ⟨hD, h1⟩
          · exact g1 x hx
        · rcases List.mem_cons.1 hj with e1 | hj
          · rw [e1]; exact List.mem_cons_self ..
          · exact List.mem_cons_of_mem _ (g2 j hj hDj)
    · rename_i hD
      obtain ⟨g1, g2⟩ := rdL_mem h
      refine ⟨g1, fun j hj hDj => ?_⟩
      rcases List.mem_cons.1 hj with e1 | hj
      · rw [e1] at hDj; exact absurd hDj hD
      · exact g2 j hj hDj
theorem evS_over : ∀ {l : List (Nat × Xp)} {q : List (Nat × PV)} {i : Nat}, evS T H l = some q → i ∈ l.map (·.1) → ∃ e, (i, e) ∈ l ∧ evX T H e = some (over T q i)
  | [], q, i, h, hi => by cases hi
  | (j, e) :: r, q, i, h, hi => by
    simp only [evS] at h
    obtain ⟨v, h1, h⟩ := bnd_eq_some.1 h
    obtain ⟨w, h2, h⟩ := bnd_eq_some.1 h
    injection h with h
    subst h
    simp only [over, upd]
    by_cases e1 : i = j
    · subst e1
      rw [if_pos rfl]
      exact ⟨e, List.mem_cons_self .., h1⟩
    · rw [if_neg e1]
      rcases List.mem_cons.1 hi with e2 | hi
      · exact absurd e2 e1
      · obtain ⟨e', he', hv⟩ := evS_over h2 hi
        exact ⟨e', List.mem_cons_of_mem _ he', hv⟩
theorem evS_mem : ∀ {l : List (Nat × Xp)} {q : List (Nat × PV)} {x : Nat × Xp}, evS T H l = some q → x ∈ l → ∃ v, evX T H x.2 = some v
  | [], q, x, h, hx => by cases hx
  | (j, e) :: r, q, x, h, hx => by
    simp only [evS] at h
    obtain ⟨v, h1, h⟩ := bnd_eq_some.1 h
    obtain ⟨w, h2, h⟩ := bnd_eq_some.1 h
    rcases List.mem_cons.1 hx with e1 | hx
    · subst e1; exact ⟨v, h1⟩
    · exact evS_mem h2 hx
theorem rdL_ok (hI : Inv D S) (hS : Sim D S T T' H) {G : Option (Nat × Bool)} {g : List (Xp × Bool)} (hg : gdOf D S G = some g) (hh : Holds T H g) {is : List Nat} {l : List (Nat × Xp)} {q : List (Nat × PV)} (h : rdL D S G is = some l) (hq : evS T H l = some q) :
    ∀ i ∈ is, T' i = over T q i := by
  intro i hi
  obtain ⟨g1, g2⟩ := rdL_mem h
  cases hD : D.contains i with
  | true =>
    obtain ⟨e, he, hv⟩ := evS_over hq (g2 i hi hD)
    exact rdS_ok hI hS hg hh (g1 _ he).2 hv
  | false =>
    rw [over_out, hS.out i hD]
    intro hm
    rw [evS_keys hq] at hm
    obtain ⟨x, hx, e⟩ := List.mem_map.1 hm
    have := (g1 x hx).1
    rw [e, hD] at this
    cases this

theorem pick_inv {c a b : Xp} {v : PV} (h : evX T H (.pick c a b) = some v) : ∃ t, evX T H c = some (.s (.bool t)) ∧ evX T H (if t = true then a else b) = some v := by
  simp only [evX] at h
  obtain ⟨w, h1, h⟩ := bnd_eq_some.1 h
  split at h
  · rename_i t
    refine ⟨t, h1, ?_⟩
    cases t with
    | true => simpa using h
    | false => simpa using h
  · cases h
theorem rdB_ok (hI : Inv D S) (hS : Sim D S T T' H) {G : Option (Nat × Bool)} {g : List (Xp × Bool)} (hg : gdOf D S G = some g) (hh : Holds T H g) {c x : MX} {w : Bool} {ec e : Xp} {v : PV} (hc : rdX D S G c = some ec) (hec : evX T H ec = some (.s (.bool w)))
    (h : rdB D S G c w x = some e) (hv : evX T H e = some v) : valX T' x = v := by
  cases x with
  | c p =>
    simp only [rdB] at h
    injection h with h
    subst h
    simp only [evX, valX] at hv
    injection hv with hv
  | t i =>
    simp only [rdB] at h
    split at h
    · rename_i e' he'
      injection h with h
      subst h
      exact rdS_ok hI hS hg hh he' hv
    · split at h
      · rename_i j
        simp only [rdX] at hc
        rcases rdS_cases hc with ⟨hD, he⟩ | ⟨hD, p, hp, hl, hd, he, hgd⟩
        · have hg' : gdOf D S (some (j, w)) = some [(.x (.t j), w)] := by simp only [gdOf]; rw [if_neg (by rw [hD]; simp)]
          exact rdS_ok hI hS hg' (Holds.one.2 (by rw [← he]; exact hec)) h hv
        · have hg' : gdOf D S (some (j, w)) = some (p.g ++ [(p.e, w)]) := by simp only [gdOf]; rw [if_pos hD, hl]
          exact rdS_ok hI hS hg' (Holds.append.2 ⟨hI.chain hp hg hgd hh, Holds.one.2 (by rw [he]; exact hec)⟩) h hv
      · cases h
theorem mkX_ok (hI : Inv D S) (hS : Sim D S T T' H) {G : Option (Nat × Bool)} {g : List (Xp × Bool)} (hg : gdOf D S G = some g) (hh : Holds T H g) {o : MOp} {e : Xp} {v : PV} {dr : Bool} {n : Nat} (hp : isPure o = true) (h : mkX D S G o = some e) (hv : evX T H e = some v) :
    mstep o dr T' H n = some (v, H) := by
  have gen : kindM o < 2 → (bnd (rdL D S G (slotsOf o)) fun l => some (Xp.op o l)) = some e → mstep o dr T' H n = some (v, H) := by
    intro hk h
    obtain ⟨l, h1, h⟩ := bnd_eq_some.1 h
    injection h with h
    subst h
    simp only [evX] at hv
    obtain ⟨q, h2, hv⟩ := bnd_eq_some.1 hv
    obtain ⟨r, h3, hv⟩ := bnd_eq_some.1 hv
    injection hv with hv
    obtain ⟨r1, r2⟩ := r
    simp only at hv
    subst hv
    obtain ⟨e1, e2⟩ := mstep_pure (dr2 := dr) (nid2 := n) hk h3
    simp only at e1
    rw [mstep_congr (rdL_ok hI hS hg hh h1 h2), e2, e1]
  cases o with
  | mv x =>
    simp only [mkX] at h
    simp only [mstep, rdX_ok hI hS hg hh h hv]
  | pick c a b =>
    simp only [mkX] at h
    obtain ⟨ec, h1, h⟩ := bnd_eq_some.1 h
    obtain ⟨ea, h2, h⟩ := bnd_eq_some.1 h
    obtain ⟨eb, h3, h⟩ := bnd_eq_some.1 h
    injection h with h
    subst h
    obtain ⟨t, g1, g2⟩ := pick_inv hv
    simp only [mstep, rdX_ok hI hS hg hh h1 g1]
    cases t with
    | true =>
      simp only [if_true] at g2 ⊢
      rw [rdB_ok hI hS hg hh h1 g1 h2 g2]
    | false =>
      simp only [Bool.false_eq_true, if_false] at g2 ⊢
      rw [rdB_ok hI hS hg hh h1 g1 h3 g2]
  | _ => exact gen (by simpa [isPure] using hp) h
/-- What an operation reads anyway need not be asked for by itself. -/
theorem rdS_mem (hI : Inv D S) {G : Option (Nat × Bool)} {p : Pe} (hp : p ∈ S) {e : Xp} (h : rdS D S G p.d = some e) : e = p.e := by
  rcases rdS_cases h with ⟨hD, he⟩ | ⟨hD, q, hq, hl, hd, he, hgd⟩
  · rw [hI.mem p hp] at hD; cases hD
  · rw [hI.uniq p hp] at hl
    injection hl with hl
    rw [← he, hl]
theorem rdX_mem (hI : Inv D S) {G : Option (Nat × Bool)} {p : Pe} (hp : p ∈ S) {x : MX} {e : Xp} (h : rdX D S G x = some e) (hx : (sx x).contains p.d = true) : e = p.e := by
  cases x with
  | t i =>
    have : p.d = i := by simpa [sx] using hx
    simp only [rdX] at h
    rw [← this] at h
    exact rdS_mem hI hp h
  | c q => simp [sx] at hx
theorem rdB_mem (hI : Inv D S) {G : Option (Nat × Bool)} {p : Pe} (hp : p ∈ S) {c x : MX} {w : Bool} {e : Xp} (h : rdB D S G c w x = some e) (hx : (sx x).contains p.d = true) : e = p.e := by
  cases x with
  | t i =>
    have : p.d = i := by simpa [sx] using hx
    simp only [rdB] at h
    rw [← this] at h
    split at h
    · rename_i e' he'
      injection h with h
      subst h
      exact rdS_mem hI hp he'
    · split at h
      · exact rdS_mem hI hp h
      · cases h
  | c q => simp [sx] at hx
theorem rdL_read (hI : Inv D S) {G : Option (Nat × Bool)} {p : Pe} (hp : p ∈ S) {is : List Nat} {l : List (Nat × Xp)} (h : rdL D S G is = some l) (hx : is.contains p.d = true) : (p.d, p.e) ∈ l := by
  obtain ⟨g1, g2⟩ := rdL_mem h
  obtain ⟨x, hx', e⟩ := List.mem_map.1 (g2 p.d (by simpa using hx) (hI.mem p hp))
  obtain ⟨xi, xe⟩ := x
  simp only at e
  subst e
  have := rdS_mem hI hp (g1 _ hx').2
  simp only at this
  rw [← this]
  exact hx'
theorem cvd_imp (hI : Inv D S) {G : Option (Nat × Bool)} {g : List (Xp × Bool)} (hg : gdOf D S G = some g) {o : MOp} {e : Xp} {d : Nat} (h : mkX D S G o = some e) {p : Pe} (hp : p ∈ S) (hc : cvd S G o p = true) : Imp ⟨d, G, g, e, none, false⟩ p := by
  have same : p.gd = G → p.g = g := by
    intro e1
    have := hI.gd p hp
    rw [e1, hg] at this
    injection this with this
    exact this.symm
  have gen : (p.gd == G && (slotsOf o).contains p.d) = true → (bnd (rdL D S G (slotsOf o)) fun l => some (Xp.op o l)) = some e → Imp ⟨d, G, g, e, none, false⟩ p := by
    intro hc h T H hh
    simp only [Bool.and_eq_true, beq_iff_eq] at hc
    obtain ⟨l, h1, h⟩ := bnd_eq_some.1 h
    injection h with h
    subst h
    refine ⟨by simp only; rw [← same hc.1]; exact hh, fun hv => ?_⟩
    obtain ⟨v, hv⟩ := hv
    simp only [evX] at hv
    obtain ⟨q, h2, hv⟩ := bnd_eq_some.1 hv
    exact evS_mem h2 (rdL_read hI hp h1 hc.2)
  cases o with
  | mv x =>
    simp only [cvd, Bool.and_eq_true, beq_iff_eq] at hc
    simp only [mkX] at h
    have he := rdX_mem hI hp h (by simpa [slotsOf] using hc.2)
    subst he
    intro T H hh
    exact ⟨by simp only; rw [← same hc.1]; exact hh, fun hv => hv⟩
  | pick c a b =>
    simp only [mkX] at h
    obtain ⟨ec, h1, h⟩ := bnd_eq_some.1 h
    obtain ⟨ea, h2, h⟩ := bnd_eq_some.1 h
    obtain ⟨eb, h3, h⟩ := bnd_eq_some.1 h
    injection h with h
    subst h
    simp only [cvd, Bool.or_eq_true, Bool.and_eq_true, beq_iff_eq] at hc
    rcases hc with ⟨e1, hx⟩ | hc
    · have he := rdX_mem hI hp h1 hx
      subst he
      intro T H hh
      refine ⟨by simp only; rw [← same e1]; exact hh, fun hv => ?_⟩
      obtain ⟨v, hv⟩ := hv
      obtain ⟨t, g1, _⟩ := pick_inv hv
      exact ⟨_, g1⟩
    · cases c with
      | c q => simp at hc
      | t j =>
        simp only [Bool.and_eq_true, Bool.or_eq_true, beq_iff_eq] at hc
        obtain ⟨hj, hc⟩ := hc
        split at hj
        · rename_i q hq
          obtain ⟨hq1, hq2⟩ := look1_mem hq
          have hqg : q.gd = G := by simpa using hj
          have hec : ec = q.e := by
            simp only [rdX] at h1
            rw [← hq2] at h1
            exact rdS_mem hI hq1 h1
          have hqch : q.g = g := by
            have := hI.gd q hq1
            rw [hqg, hg] at this
            injection this with this
            exact this.symm
          have hDj : D.contains j = true := by rw [← hq2]; exact hI.mem q hq1
          have chain : ∀ w, p.gd = some (j, w) → p.g = g ++ [(ec, w)] := by
            intro w e1
            have := hI.gd p hp
            rw [e1] at this
            simp only [gdOf] at this
            rw [if_pos hDj, hq] at this
            injection this with this
            rw [← this, hqch, hec]
          intro T H hh
          rcases hc with ⟨e1, hx⟩ | ⟨e1, hx⟩
          · rw [chain true e1] at hh
            obtain ⟨k1, k2⟩ := Holds.append.1 hh
            refine ⟨k1, fun hv => ?_⟩
            obtain ⟨v, hv⟩ := hv
            obtain ⟨t, g1, g2⟩ := pick_inv hv
            rw [Holds.one.1 k2] at g1
            injection g1 with g1
            injection g1 with g1
            injection g1 with g1
            subst g1
            rw [← rdB_mem hI hp h2 hx]
            exact ⟨v, by simpa using g2⟩
          · rw [chain false e1] at hh
            obtain ⟨k1, k2⟩ := Holds.append.1 hh
            refine ⟨k1, fun hv => ?_⟩
            obtain ⟨v, hv⟩ := hv
            obtain ⟨t, g1, g2⟩ := pick_inv hv
            rw [Holds.one.1 k2] at g1
            injection g1 with g1
            injection g1 with g1
            injection g1 with g1
            subst g1
            rw [← rdB_mem hI hp h3 hx]
            exact ⟨v, by simpa using g2⟩
        · cases hj
  | _ => exact gen hc h
end
end Go.Vm
