/- Literals: what the program's Format and Parse give; the law ValueRoundTrip, run by the machine. -/
import Derived.Test.YtnoambiapjemlaaDoorVlT
import Derived.Test.YtnoambiapjemlaaDoorVlG
set_option linter.unusedVariables false
set_option linter.unusedSimpArgs false
set_option maxRecDepth 100000
namespace Go.Vm

theorem dec_len (u : Nat) (h : u ≤ 9223372036854775808) : (Lib.decDigits u).length ≤ 20 := by
  have e := Lib.decDigits_eq u
  rw [e, List.length_map, List.length_range]
  apply Classical.byContradiction
  intro hn
  have key : ∀ (k u : Nat), u < 10 ^ k → 1 ≤ k → Lib.nDigits u ≤ k := by
    intro k
    induction k with
    | zero => intro u _ h; omega
    | succ k ih =>
      intro u hu _
      by_cases h10 : u < 10
      · rw [Lib.nDigits_small h10]; omega
      · rw [Lib.nDigits_big h10]
        have : 1 ≤ k := by
          rcases Nat.eq_zero_or_pos k with h | h
          · subst h; simp at hu; omega
          · exact h
        have := ih (u / 10) (by rw [Nat.pow_succ] at hu; omega) this
        omega
  have := key 20 u (by omega) (by omega)
  omega
/-! ### the library's functions -/
theorem ext35 (s old new : List UInt8) (h1 : s.length ≤ 1000000) (h2 : 1 ≤ old.length) (h3 : new.length ≤ 2) : calL EE 35 [.str s, .str old, .str new] [] = some (.ret (.str (Lib.replaceAll s old new)), []) := by
  refine ext_cal (g := replX) (v := .str (Lib.replaceAll s old new)) rfl ?_ own_s
  unfold replX
  have hc : Lib.countB ⟨⟨s⟩⟩ ⟨⟨old⟩⟩ ≤ s.length + 1 := Lib.count_le s old
  have hm : Lib.countB ⟨⟨s⟩⟩ ⟨⟨old⟩⟩ * new.length ≤ (s.length + 1) * 2 := Nat.mul_le_mul hc h3
  simp only
  rw [if_pos ⟨by omega, h2, by omega⟩]
theorem ext49 (s : List UInt8) : calL EE 49 [.str s, .str [39]] [] = some (.ret (.bool (decide (39 ∈ s))), []) := by
  refine ext_cal (g := hasX) (v := .bool (decide (39 ∈ s))) rfl ?_ own_s
  show some (PV.bool (decide (0 ≤ Lib.indexByte s 39))) = _
  congr 2
  rw [decide_eq_decide]
  induction s with
  | nil => simp [Lib.indexByte]
  | cons b s ih =>
    unfold Lib.indexByte
    by_cases hb : b = 39
    · subst hb; simp
    · rw [if_neg (by simpa using hb), List.mem_cons, ← ih]
      have hge : -1 ≤ Lib.indexByte s 39 := by
        have := Lib.index_ge s [39]
        rwa [Lib.index_one] at this
      by_cases h : Lib.indexByte s 39 = -1
      · rw [if_pos (by rw [h]; rfl), h]
        simp [Ne.symm hb]
      · rw [if_neg (by rw [beq_iff_eq]; exact h)]
        have : 39 ≠ b := Ne.symm hb
        simp only [this, false_or]
        omega
theorem ext51 (s : List UInt8) (h : s.length ≤ 1000000) : calL EE 51 [.str s, .str digs] [] = some (.ret (.str (Lib.trimS s digs)), []) := by
  refine ext_cal (g := trimX) (v := .str (Lib.trimS s digs)) rfl ?_ own_s
  unfold trimX
  simp only
  rw [if_pos ⟨by omega, by decide, by decide⟩]
theorem ext34 (n : Int) (h1 : -9223372036854775808 ≤ n) (h2 : n ≤ 9223372036854775807) : calL EE 34 [.i64 n, .i64 10] [] = some (.ret (.str (Lib.itoa n)), []) := by
  refine ext_cal (g := fmtX) (v := .str (Lib.itoa n)) rfl ?_ own_s
  unfold fmtX
  simp only
  rw [if_pos ⟨trivial, h1, h2⟩]
theorem own_par {m : Nat} {H : Ob} {l : List UInt8} : own m H (parV l) = some (parV l) := by
  unfold parV errP
  cases Lib.parseIntB 64 l <;> simp [own, ownL, bnd]
theorem ext31 (l : List UInt8) (h : l.length ≤ 1000000) : calL EE 31 [.str l, .i64 10, .i64 64] [] = some (.ret (parV l), []) := by
  refine ext_cal (g := parX) (v := parV l) rfl ?_ own_par
  unfold parX
  simp only
  rw [if_pos ⟨trivial, trivial, by omega⟩]
/-! ### signs -/
theorem u8i {b : UInt8} {k : Nat} (h : k < 256) : (b.toNat : Int) = (k : Nat) ↔ b = UInt8.ofNat k := by
  constructor
  · intro e
    apply UInt8.toNat_inj.1
    rw [UInt8.toNat_ofNat']
    omega
  · intro e
    rw [e, UInt8.toNat_ofNat']
    omega
def stripM (s : List UInt8) : List UInt8 := if s.getD 0 0 = 45 then s.drop 1 else s
theorem t85 (s : List UInt8) : calL EE 85 [.str s, .str [45]] [] = some (.ret (.bool (decide (s.getD 0 0 = 45))), []) := by
  refine fn_ok f85 (by simp) ?_
  unfold c85
  simp only [go_sem, reduceIte, Nat.reduceEqDiff, Nat.reduceAdd, Nat.reduceLeDiff, Nat.reduceLT]
  cases s with
  | nil => exact ⟨fun h => by simp at h, rfl⟩
  | cons b s =>
    refine ⟨fun h => of_decide_eq_true h, ?_⟩
    congr 3
    have h1 : decide (((1 : Nat) : Int) ≤ ((b :: s).length : Nat)) = true := decide_eq_true (by simp only [List.length_cons]; omega)
    rw [h1, Bool.true_and, decide_eq_decide]
    simp
theorem t61 (s : List UInt8) : calL EE 61 [.str s, .str [45]] [] = some (.ret (.str (stripM s)), []) := by
  refine fn_ok f61 (by simp) ?_
  unfold c61 stripM
  simp only [go_sem, reduceIte, Nat.reduceEqDiff, Nat.reduceAdd, Nat.reduceLeDiff, Nat.reduceLT]
  refine WC_p rfl rfl (t85 s) ?_
  simp only [go_sem, reduceIte, Nat.reduceEqDiff, Nat.reduceAdd, Nat.reduceLeDiff, Nat.reduceLT, decide_eq_true_eq]
  split
  · rename_i h
    have : 1 ≤ s.length := by
      cases s with
      | nil => cases h
      | cons b s => simp
    exact ⟨by omega, by rw [List.take_length]⟩
  · rfl
theorem t50 (s : List UInt8) : calL EE 50 [.str s, .str [45]] [] = some (.ret (.str (stripM s)), []) := by
  refine fn_ok f50 (by simp) ?_
  unfold c50
  simp only [go_sem, reduceIte, Nat.reduceEqDiff, Nat.reduceAdd, Nat.reduceLeDiff, Nat.reduceLT]
  refine WC_p rfl rfl (t61 s) ?_
  simp only [go_sem, reduceIte, Nat.reduceEqDiff, Nat.reduceAdd, Nat.reduceLeDiff, Nat.reduceLT]
/-- The form of a numeral. -/
def intOk (s : List UInt8) : Bool := decide (stripM s ≠ []) && (!(decide ((stripM s).getD 0 0 = 48) && decide (s ≠ [48])) && (stripM s).all isDig)
theorem t30 (s : List UInt8) (h : s.length ≤ 1000000) : calL EE 30 [.str s] [] = some (.ret (.bool (intOk s)), []) := by
  refine fn_ok f30 (by simp) ?_
  unfold c30
  simp only [go_sem, reduceIte, Nat.reduceEqDiff, Nat.reduceAdd, Nat.reduceLeDiff, Nat.reduceLT]
  refine WC_p rfl rfl (t50 s) ?_
  simp only [go_sem, reduceIte, Nat.reduceEqDiff, Nat.reduceAdd, Nat.reduceLeDiff, Nat.reduceLT, Bool.or_eq_true, decide_eq_true_eq]
  have hne : stripM s = [] ∨ (0 : Int) ≤ 0 ∧ (0 : Int) < (stripM s).length := by
    cases hs : stripM s with
    | nil => exact .inl rfl
    | cons b r => exact .inr ⟨Int.le_refl _, by simp only [List.length_cons]; omega⟩
  refine ⟨hne, ?_⟩
  have hl : (stripM s).length ≤ 1000000 := by
    unfold stripM
    split
    · rw [List.length_drop]; omega
    · exact h
  have e48 : decide ((((stripM s).getD (Int.toNat 0) 0).toNat : Int) = 48) = decide ((stripM s).getD 0 0 = 48) := by
    rw [decide_eq_decide]; exact u8i (k := 48) (by omega)
  rw [e48]
  split
  · rename_i hc
    congr 3
    unfold intOk
    rcases hc with hc | hc
    · rw [decide_eq_false (fun e => e hc), Bool.false_and]
    · rw [Bool.and_eq_true, Bool.not_eq_true'] at hc
      rw [hc.1, decide_eq_true (of_decide_eq_false hc.2 : s ≠ [48]), Bool.and_self, Bool.not_true, Bool.false_and, Bool.and_false]
  · rename_i hc
    refine WC_p rfl rfl (ext51 (stripM s) hl) ?_
    simp only [go_sem, reduceIte, Nat.reduceEqDiff, Nat.reduceAdd, Nat.reduceLeDiff, Nat.reduceLT]
    congr 3
    rw [not_or, Bool.and_eq_true, Bool.not_eq_true', not_and, Bool.not_eq_false] at hc
    unfold intOk
    rw [decide_eq_true hc.1, Bool.true_and]
    have e1 : (decide ((stripM s).getD 0 0 = 48) && decide (s ≠ [48])) = false := by
      rw [Bool.and_eq_false_iff]
      cases h1 : decide ((stripM s).getD 0 0 = 48) with
      | false => exact .inl rfl
      | true => exact .inr (decide_eq_false (fun e => e (of_decide_eq_true (hc.2 h1))))
    rw [e1, Bool.not_false, Bool.true_and, Bool.eq_iff_iff, decide_eq_true_eq, trim_nil]
theorem t29 (s : List UInt8) (h : s.length ≤ 1000000) : ∃ v, calL EE 29 [.str s] [] = some (.ret v, []) ∧ ∃ t ok, v = .tuple [.str t, .bool ok] ∧ ok = (unqV s).isSome ∧ ∀ u, unqV s = some u → t = u := by
  refine fn_ex f29 (by simp) ?_
  unfold c29
  simp only [go_sem, reduceIte, Nat.reduceEqDiff, Nat.reduceAdd, Nat.reduceLeDiff, Nat.reduceLT, Bool.or_eq_true, decide_eq_true_eq, Bool.not_eq_true', decide_eq_false_iff_not]
  have hw : 1 ≤ s.length → IntKind.i64.wrap ((s.length : Int) - 1) = ((s.length - 1 : Nat) : Int) := fun h1 => by
    rw [wrap_in (by omega) (by omega)]; omega
  have e0 : (((s.getD (Int.toNat 0) 0).toNat : Int) = 39) ↔ s.getD 0 0 = 39 := u8i (k := 39) (by omega)
  refine ⟨⟨?_, ?_⟩, ?_⟩
  · omega
  · by_cases h2 : s.length < 2
    · exact .inl (.inl (by omega))
    · rw [hw (by omega)]
      exact .inr ⟨by omega, by omega⟩
  · split
    · rename_i hc
      have hu : unqV s = none := by
        unfold unqV
        rw [if_neg]
        rintro ⟨h1, h2, h3⟩
        rw [hw (by omega), e0] at hc
        rw [Int.toNat_natCast] at hc
        rcases hc with (hc | hc) | hc
        · omega
        · exact hc h2
        · exact hc ((u8i (k := 39) (by omega)).2 h3)
      exact ⟨[], false, rfl, by rw [hu]; rfl, fun u h => by rw [hu] at h; cases h⟩
    · rename_i hc
      simp only [not_or, Classical.not_not] at hc
      obtain ⟨⟨h1, h2⟩, h3⟩ := hc
      rw [hw (by omega), Int.toNat_natCast] at h3 ⊢
      have h3 : s.getD (s.length - 1) 0 = 39 := (u8i (k := 39) (by omega)).1 h3
      refine ⟨⟨by omega, by omega, by omega⟩, ?_⟩
      have e1 : Int.toNat 1 = 1 := rfl
      rw [e1]
      have hu : unqV s = pairs ((s.take (s.length - 1)).drop 1) := by
        unfold unqV
        rw [if_pos ⟨by omega, e0.1 h2, h3⟩]
      generalize hm : (s.take (s.length - 1)).drop 1 = m at hu ⊢
      have hml : m.length ≤ 1000000 := by
        rw [← hm, List.length_drop, List.length_take]; omega
      obtain ⟨k1, k2⟩ := pairs_rep m.length (s := m) (Nat.le_refl _)
      refine WC_p rfl rfl (ext35 m [39, 39] [] hml (by simp) (by simp)) ?_
      simp only [go_sem, reduceIte, Nat.reduceEqDiff, Nat.reduceAdd, Nat.reduceLeDiff, Nat.reduceLT]
      refine WC_p rfl rfl (ext35 m [39, 39] [39] hml (by simp) (by simp)) ?_
      simp only [go_sem, reduceIte, Nat.reduceEqDiff, Nat.reduceAdd, Nat.reduceLeDiff, Nat.reduceLT]
      refine WC_p rfl rfl (ext49 _) ?_
      simp only [go_sem, reduceIte, Nat.reduceEqDiff, Nat.reduceAdd, Nat.reduceLeDiff, Nat.reduceLT, own_tuple, ownL_cons, ownL_nil]
      refine ⟨_, _, rfl, ?_, fun u h => k1 u (by rw [← hu]; exact h)⟩
      rw [hu]
      cases hp : pairs m with
      | none => rw [decide_eq_true (k2.1 hp)]; rfl
      | some t =>
        rw [decide_eq_false (fun h => by have := k2.2 h; rw [hp] at this; cases this)]
        rfl
end Go.Vm
