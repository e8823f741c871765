/- The law ValueLiterals: the reference's Parse; run by the machine. -/
import Derived.Test.YtnoambiapjemlaaDoorVlK
set_option linter.unusedVariables false
set_option linter.unusedSimpArgs false
set_option maxRecDepth 100000
namespace Go.Vm

def unqR (s : List UInt8) : PV := match unqV s with
  | some t => .tuple [.str t, .bool true]
  | none => .tuple [.str [], .bool false]
theorem pairs_step {m t : List UInt8} {i : Nat} (hi : i < m.length) (hp : pairs m = (pairs (m.drop i)).map (t ++ ·)) (hb : m.getD i 0 ≠ 39) : pairs m = (pairs (m.drop (i + 1))).map ((t ++ [m.getD i 0]) ++ ·) := by
  rw [hp, show m.drop i = m.getD i 0 :: m.drop (i + 1) from by
    rw [List.drop_eq_getElem_cons hi, List.getD_eq_getElem?_getD, List.getElem?_eq_getElem hi]; rfl, pairs_ne hb, Option.map_map]
  congr 1
  funext x
  simp
theorem drop_get {m : List UInt8} {i : Nat} (hi : i < m.length) : m.drop i = m.getD i 0 :: m.drop (i + 1) := by
  rw [List.drop_eq_getElem_cons hi, List.getD_eq_getElem?_getD, List.getElem?_eq_getElem hi]; rfl
theorem pairs_step2 {m t : List UInt8} {i : Nat} (hi : i + 1 < m.length) (hp : pairs m = (pairs (m.drop i)).map (t ++ ·)) (hb : m.getD i 0 = 39) (hc : m.getD (i + 1) 0 = 39) : pairs m = (pairs (m.drop (i + 2))).map ((t ++ [39]) ++ ·) := by
  rw [hp, drop_get (by omega), drop_get hi, hb, hc, pairs_q, Option.map_map]
  congr 1
  funext x
  simp
theorem pairs_bad {m t : List UInt8} {i : Nat} (hi : i < m.length) (hp : pairs m = (pairs (m.drop i)).map (t ++ ·)) (hb : m.getD i 0 = 39) (hc : i + 1 = m.length ∨ m.getD (i + 1) 0 ≠ 39) : pairs m = none := by
  rw [hp, drop_get hi, hb]
  by_cases hl : i + 1 < m.length
  · rw [drop_get hl, pairs_two, if_pos rfl, if_neg (hc.resolve_left (by omega))]
    rfl
  · rw [List.drop_of_length_le (by omega), pairs_one, if_pos rfl]
    rfl
theorem t32 (s : List UInt8) (h : s.length ≤ 1000000) : calL EE 32 [.str s] [] = some (.ret (unqR s), []) := by
  refine fn_ok f32 (by simp) ?_
  unfold c32
  simp only [go_sem, reduceIte, Nat.reduceEqDiff, Nat.reduceAdd, Nat.reduceLeDiff, Nat.reduceLT, Bool.or_eq_true, decide_eq_true_eq, Bool.not_eq_true', decide_eq_false_iff_not]
  have hw : 1 ≤ s.length → IntKind.i64.wrap ((s.length : Int) - 1) = ((s.length - 1 : Nat) : Int) := fun h1 => by
    rw [wrap_in (by omega) (by omega)]; omega
  have e0 : (((s.getD (Int.toNat 0) 0).toNat : Int) = 39) ↔ s.getD 0 0 = 39 := u8i (k := 39) (by omega)
  refine ⟨⟨?_, ?_⟩, ?_⟩
  · omega
  · by_cases h2 : s.length < 2
    · exact .inl (.inl (by omega))
    · rw [hw (by omega)]
      exact .inr ⟨by omega, by omega⟩
  · split
    · rename_i hc
      have hu : unqV s = none := by
        unfold unqV
        rw [if_neg]
        rintro ⟨h1, h2, h3⟩
        rw [hw (by omega), e0] at hc
        rw [Int.toNat_natCast] at hc
        rcases hc with (hc | hc) | hc
        · omega
        · exact hc h2
        · exact hc ((u8i (k := 39) (by omega)).2 h3)
      unfold unqR
      rw [hu]
    · rename_i hc
      simp only [not_or, Classical.not_not] at hc
      obtain ⟨⟨h1, h2⟩, h3⟩ := hc
      rw [hw (by omega), Int.toNat_natCast] at h3 ⊢
      have h3 : s.getD (s.length - 1) 0 = 39 := (u8i (k := 39) (by omega)).1 h3
      refine ⟨⟨by omega, by omega, by omega⟩, ?_⟩
      have e1 : Int.toNat 1 = 1 := rfl
      rw [e1]
      have hu : unqV s = pairs ((s.take (s.length - 1)).drop 1) := by
        unfold unqV
        rw [if_pos ⟨by omega, e0.1 h2, h3⟩]
      generalize hm : (s.take (s.length - 1)).drop 1 = m at hu ⊢
      have hml : m.length ≤ 1000000 := by
        rw [← hm, List.length_drop, List.length_take]; omega
      have hr : unqR s = match pairs m with
        | some t => .tuple [.str t, .bool true]
        | none => .tuple [.str [], .bool false] := by unfold unqR; rw [hu]
      rw [hr]
      clear hr hu hm e0 hw h3 h2
      refine WP_loop rfl (fun k T H n => ∃ i t, i + k = m.length ∧ T 5 = .i64 i ∧ T 4 = .str t ∧ t.length ≤ i ∧ pairs m = (pairs (m.drop i)).map (t ++ ·)) (k0 := m.length) ⟨0, [], by omega, rfl, rfl, by simp, by simp⟩ ?_
      rintro k T' H' n' hf ⟨i, t, hik, h5, h4, htl, hp⟩
      have h0 : T' 0 = .str m := hf 0 rfl
      clear hf
      have w1 : IntKind.i64.wrap ((i : Int) + 1) = ((i + 1 : Nat) : Int) := wrap_suc (by omega)
      have w2 : IntKind.i64.wrap (((i + 1 : Nat) : Int) + 1) = ((i + 2 : Nat) : Int) := wrap_suc (by omega)
      simp only [go_sem, reduceIte, Nat.reduceEqDiff, Nat.reduceAdd, Nat.reduceLeDiff, Nat.reduceLT, h0, h4, h5, Int.ofNat_lt, w1, w2, decide_eq_true_eq, Bool.or_eq_true, Bool.not_eq_true', decide_eq_false_iff_not]
      have c1 : (((m.getD i 0).toNat : Int) = 39) ↔ m.getD i 0 = 39 := u8i (k := 39) (by omega)
      have c2 : (((m.getD (i + 1) 0).toNat : Int) = 39) ↔ m.getD (i + 1) 0 = 39 := u8i (k := 39) (by omega)
      simp only [c1, c2]
      by_cases hi : i < m.length
      · rw [if_pos hi]
        refine ⟨hi, ?_⟩
        by_cases hq : m.getD i 0 = 39
        · rw [if_pos hq]
          refine ⟨?_, ?_⟩
          · by_cases he : i + 1 = m.length
            · exact .inl (by omega)
            · exact .inr (by omega)
          · by_cases hb : i + 1 = m.length ∨ m.getD (i + 1) 0 ≠ 39
            · rw [if_pos (by
                rcases hb with h | h
                · exact .inl (by omega)
                · exact .inr h), pairs_bad hi hp hq hb]
            · rw [not_or, Classical.not_not] at hb
              obtain ⟨hb1, hb2⟩ := hb
              rw [if_neg (by
                rintro (h | h)
                · omega
                · exact h hb2)]
              have hi2 : i + 1 < m.length := by omega
              have hc := cut1 (l := m) (j := i + 1) hi2
              have hc : (m.take (i + 2)).drop (i + 1) = [39] := by rw [← hb2]; exact hc
              rw [hc]
              have hk : i + 2 + (k - 2) = m.length := by omega
              refine ⟨?_, ?_, k - 2, by omega, i + 2, t ++ [39], hk, rfl, rfl, by simp; omega, pairs_step2 hi2 hp hq hb2⟩
              all_goals first | omega | (simp only [List.length_cons, List.length_nil]; omega)
        · rw [if_neg hq]
          have hc := cut1 (l := m) (j := i) hi
          rw [hc]
          refine ⟨?_, ?_, k - 1, by omega, i + 1, t ++ [m.getD i 0], by omega, rfl, rfl, by simp; omega, pairs_step hi hp hq⟩
          all_goals first | omega | (simp only [List.length_cons, List.length_nil]; omega)
      · rw [if_neg hi]
        rw [List.drop_of_length_le (by omega), pairs_nil] at hp
        rw [hp]
        simp
/-! ### numbers -/
def numV (s : List UInt8) (m : Nat) : Nat × Int :=
  if s = [] ∨ (s.getD 0 0 = 48 ∧ 1 < s.length) then (0, 3) else if s.all isDig = false then (0, 3) else if m < dv s then (0, 2) else (dv s, 0)
theorem dv_take {s : List UInt8} {j : Nat} (h : j < s.length) : dv (s.take (j + 1)) = dv (s.take j) * 10 + ((s.getD j 0).toNat - 48) := by
  rw [take_step 0 h, dv_snoc]
theorem dv_mono {s : List UInt8} {j : Nat} : dv (s.take j) ≤ dv s := by
  have mono : ∀ (l : List UInt8) (a : Nat), a ≤ l.foldl (fun a c => a * 10 + (c.toNat - 48)) a := by
    intro l
    induction l with
    | nil => intro a; exact Nat.le_refl _
    | cons b l ih => intro a; exact Nat.le_trans (show a ≤ a * 10 + (b.toNat - 48) by omega) (ih _)
  have e : s.take j ++ s.drop j = s := List.take_append_drop j s
  have : dv s = (s.drop j).foldl (fun a c => a * 10 + (c.toNat - 48)) (dv (s.take j)) := by
    conv => lhs; rw [← e]
    unfold dv
    rw [List.foldl_append]
  rw [this]
  exact mono _ _
theorem t33 (s : List UInt8) (m : Nat) (h : s.length ≤ 1000000) (hm : 100 ≤ m ∧ m ≤ 9223372036854775808) : calL EE 33 [.str s, .s (.int .u64 m)] [] = some (.ret (.tuple [.s (.int .u64 (numV s m).1), .i64 (numV s m).2]), []) := by
  refine fn_ok f33 (by simp) ?_
  unfold c33
  simp only [go_sem, reduceIte, Nat.reduceEqDiff, Nat.reduceAdd, Nat.reduceLeDiff, Nat.reduceLT, Bool.or_eq_true, Bool.and_eq_true, decide_eq_true_eq]
  have e0 : (((s.getD (Int.toNat 0) 0).toNat : Int) = 48) ↔ s.getD 0 0 = 48 := u8i (k := 48) (by omega)
  refine ⟨?_, ?_⟩
  · cases s with
    | nil => exact .inl rfl
    | cons b s => exact .inr ⟨by omega, by simp only [List.length_cons]; omega⟩
  · simp only [e0]
    by_cases hc : s = [] ∨ (s.getD 0 0 = 48 ∧ 1 < s.length)
    · have hn : numV s m = (0, 3) := by unfold numV; rw [if_pos hc]
      rw [if_pos (hc.imp id (fun h => ⟨h.1, by omega⟩)), hn]
      rfl
    · have hn : numV s m = if s.all isDig = false then (0, 3) else if m < dv s then (0, 2) else (dv s, 0) := by unfold numV; rw [if_neg hc]
      rw [if_neg (fun h => hc (h.imp id (fun h => ⟨h.1, by omega⟩)))]
      refine WP_scan rfl 6 s.length (fun j => isDig (s.getD j 0) = true) (fun _ _ _ _ => True) rfl trivial ?_ ?_
      · rintro j T' H' n' hlt hf hi _ hp
        have h0 : T' 0 = .str s := hf 0 rfl
        clear hf
        simp only [go_sem, reduceIte, Nat.reduceEqDiff, Nat.reduceAdd, Nat.reduceLeDiff, Nat.reduceLT, h0, hi, Int.ofNat_lt, hlt, decide_true, Bool.or_eq_true, decide_eq_true_eq, wrap_suc (show j < 9223372036854775807 by omega), Int.toNat_natCast]
        split
        · rename_i hd
          have ha : s.all isDig = false := all_not 0 hlt (by
            have : ¬ isDig (s.getD j 0) = true := by
              unfold isDig
              rw [Bool.and_eq_true, decide_eq_true_eq, decide_eq_true_eq]
              omega
            simpa using this)
          rw [hn, if_pos ha]
          rfl
        · rename_i hd
          unfold isDig
          rw [Bool.and_eq_true, decide_eq_true_eq, decide_eq_true_eq]
          omega
      · rintro T' H' n' hf hi _ hp
        have h0 : T' 0 = .str s := hf 0 rfl
        have h1 : T' 1 = .s (.int .u64 m) := hf 1 rfl
        clear hf
        have ha : s.all isDig = true := (all_iff 0).2 hp
        have hd0 : decide (((s.length : Nat) : Int) < (s.length : Int)) = false := decide_eq_false (by omega)
        simp only [go_sem, reduceIte, Nat.reduceEqDiff, Nat.reduceAdd, Nat.reduceLeDiff, Nat.reduceLT, h0, hi, hd0]
        refine WP_scan rfl 8 s.length (fun _ => True) (fun j T H n => T 7 = .s (.int .u64 (dv (s.take j) : Nat)) ∧ dv (s.take j) ≤ m) rfl ⟨rfl, Nat.zero_le _⟩ ?_ ?_
        · rintro j T2 H2 n2 hlt hf hi2 ⟨h7, hle⟩ _
          have g0 : T2 0 = .str s := (hf 0 rfl).trans h0
          have g1 : T2 1 = .s (.int .u64 m) := (hf 1 rfl).trans h1
          clear hf
          have hdj := hp j hlt
          unfold isDig at hdj
          rw [Bool.and_eq_true, decide_eq_true_eq, decide_eq_true_eq] at hdj
          have hstep := dv_take hlt
          have hmono := dv_mono (s := s) (j := j + 1)
          have w1 : IntKind.u8.wrap (((s.getD j 0).toNat : Int) - 48) = (((s.getD j 0).toNat - 48 : Nat) : Int) := by rw [IntWalk.u8_in _ (by omega)]; omega
          have w2 : IntKind.u64.wrap (((s.getD j 0).toNat - 48 : Nat) : Int) = (((s.getD j 0).toNat - 48 : Nat) : Int) := IntWalk.u64_in _ (by omega)
          have w3 : IntKind.u64.wrap ((m : Int) - (((s.getD j 0).toNat - 48 : Nat) : Int)) = ((m - ((s.getD j 0).toNat - 48) : Nat) : Int) := by rw [IntWalk.u64_in _ (by omega)]; omega
          have w4 : IntKind.u64.wrap (((m - ((s.getD j 0).toNat - 48) : Nat) : Int).tdiv 10) = (((m - ((s.getD j 0).toNat - 48)) / 10 : Nat) : Int) := by
            rw [IntWalk.u64_quo _ _ ⟨by omega, by omega, by omega⟩]; omega
          have h10 : ((10 : Int) ≠ 0) = True := by simp
          simp only [go_sem, reduceIte, Nat.reduceEqDiff, Nat.reduceAdd, Nat.reduceLeDiff, Nat.reduceLT, g0, g1, h7, hi2, Int.ofNat_lt, hlt, decide_true, decide_eq_true_eq, wrap_suc (show j < 9223372036854775807 by omega), Int.toNat_natCast, w1, w2, w3, w4, h10]
          split
          · rename_i hg
            rw [hn, if_neg (by rw [ha]; simp), if_pos (by omega)]
            rfl
          · rename_i hg
            have w5 : IntKind.u64.wrap (10 * ((dv (s.take j) : Nat) : Int)) = ((10 * dv (s.take j) : Nat) : Int) := by rw [IntWalk.u64_in _ (by omega)]; omega
            have w6 : IntKind.u64.wrap (((10 * dv (s.take j) : Nat) : Int) + (((s.getD j 0).toNat - 48 : Nat) : Int)) = ((dv (s.take (j + 1)) : Nat) : Int) := by rw [IntWalk.u64_in _ (by omega)]; omega
            rw [w5, w6]
            exact ⟨rfl, by omega⟩
        · rintro T2 H2 n2 hf hi2 ⟨h7, hle⟩ _
          have g0 : T2 0 = .str s := (hf 0 rfl).trans h0
          clear hf
          rw [List.take_length] at h7 hle
          simp only [go_sem, reduceIte, Nat.reduceEqDiff, Nat.reduceAdd, Nat.reduceLeDiff, Nat.reduceLT, g0, h7, hi2, hd0]
          rw [hn, if_neg (by rw [ha]; simp), if_neg (by omega)]
end Go.Vm
