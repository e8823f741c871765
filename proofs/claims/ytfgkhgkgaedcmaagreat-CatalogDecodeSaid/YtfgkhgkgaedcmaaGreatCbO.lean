/- The reference's functions that append numbers and texts to copies. -/
import Derived.Test.YtfgkhgkgaedcmaaGreatCbN
set_option linter.unusedVariables false
set_option linter.unusedSimpArgs false
set_option maxRecDepth 100000
namespace Go.Vm

theorem or128 : ∀ x : Nat, x < 128 → x ||| 128 = x + 128 := by decide
theorem low_bit2 (m : Int) (h0 : 0 ≤ m) (h1 : m < 18446744073709551616) : IntKind.u8.wrap (IntKind.u64.wrap ((BitVec.ofInt IntKind.u64.bits (IntKind.u64.wrap ((BitVec.ofInt IntKind.u64.bits m &&& BitVec.ofInt IntKind.u64.bits 127).toNat)) ||| BitVec.ofInt IntKind.u64.bits 128).toNat)) = ((UInt8.ofNat (m.toNat % 128 + 128)).toNat : Int) := by
  obtain ⟨k, rfl⟩ := Int.eq_ofNat_of_zero_le h0
  have hk : k < 18446744073709551616 := by omega
  have toN : ∀ a : Nat, a < 18446744073709551616 → (BitVec.ofInt 64 (a : Int)).toNat = a := fun a ha => by
    rw [BitVec.toNat_ofInt]
    show ((a : Int) % 18446744073709551616).toNat = a
    omega
  have e1 : (BitVec.ofInt 64 (k : Int) &&& BitVec.ofInt 64 127).toNat = k % 128 := by
    rw [BitVec.toNat_and, toN k hk, show (127 : Int) = ((127 : Nat) : Int) from rfl, toN 127 (by decide)]
    exact Nat.and_two_pow_sub_one_eq_mod k 7
  have e2 : (BitVec.ofInt 64 ((k % 128 : Nat) : Int) ||| BitVec.ofInt 64 128).toNat = k % 128 + 128 := by
    rw [BitVec.toNat_or, toN _ (by omega), show (128 : Int) = ((128 : Nat) : Int) from rfl, toN 128 (by decide)]
    exact or128 _ (by omega)
  show IntKind.u8.wrap (IntKind.u64.wrap ((BitVec.ofInt 64 (IntKind.u64.wrap ((BitVec.ofInt 64 (k : Int) &&& BitVec.ofInt 64 127).toNat)) ||| BitVec.ofInt 64 128).toNat)) = _
  rw [e1, u64_nat (n := k % 128) (by omega), e2, u64_nat (n := k % 128 + 128) (by omega), low_byte _ (by omega), Int.toNat_natCast, Int.toNat_natCast]
theorem refUint (n : Int) (h0 : 0 ≤ n) (h1 : n < 18446744073709551616) (rows : List (List SV)) (hr : rows.length ≤ 1000000000) (hc : ∀ c ∈ rows, c.length = 1) : AppC true EE 73 5 1 [.s (.int .u64 n)] rows (rows ++ (uvE n.toNat).map bRow) := by
  refine appC_of f73 rfl (by simp) fun hs q hk hq hoff => ?_
  unfold c73
  simp only [go_sem, reduceIte, Nat.reduceEqDiff, Nat.reduceAdd, Nat.reduceLeDiff, Nat.reduceLT]
  refine WX_app2 (lo := hs.length) (n := hs.length) (rows := []) Own.lit hq.rows hc (by simp only [List.length_nil]; omega) (by omega) (by omega) ?_
  intro p0 H0 ho0 hfr0 hof0 hf0
  rw [List.nil_append] at ho0
  simp only [go_sem, reduceIte, Nat.reduceEqDiff, Nat.reduceAdd, Nat.reduceLeDiff, Nat.reduceLT]
  have st0 : Stand true 5 1 hs H0 (hs.length + 1 + 1 + 1 + 1) p0 rows := ⟨ho0, fun j hj => hfr0 j (by omega) .s⟩
  refine WP_loop rfl (fun k T H n' => ∃ (m : Int) (pre : List UInt8), T 1 = .s (.int .u64 m) ∧ 0 ≤ m ∧ m.toNat < 128 ^ (k + 1) ∧ pre.length + k ≤ 9 ∧ m < 18446744073709551616 ∧ hs.length ≤ n' ∧ Stand true 5 1 hs H n' (T 5) (rows ++ pre.map bRow) ∧ uvE n.toNat = pre ++ uvF k m.toNat) (k0 := 9)
    ⟨n, [], rfl, h0, by omega, by simp, by omega, by omega, by rw [List.map_nil, List.append_nil]; exact st0.keep (by omega) (by omega) (fun _ _ => rfl), rfl⟩ ?_
  rintro k T' H' n' hf ⟨m, pre, g1, m0, m1, hp, m2, hn, ho, he⟩
  clear hf
  have hl1 : (rows ++ pre.map bRow).length ≤ 1000000010 := by rw [List.length_append, List.length_map]; omega
  have hlo := ho.1
  by_cases hlt : m < 128
  · have d : decide ((128 : Int) ≤ m) = false := decide_eq_false (by omega)
    simp only [go_sem, reduceIte, Nat.reduceEqDiff, Nat.reduceAdd, Nat.reduceLeDiff, Nat.reduceLT, g1, d]
    refine WX_app2 hlo rows_slice (by simp) (by simp only [List.length_append, List.length_map, List.length_cons, List.length_nil, List.length_take] at hl1 ⊢; omega) (by omega) (by omega) ?_
    intro p1 H1 ho1 hfr1 hof1 hof2
    simp only [go_sem, reduceIte, Nat.reduceEqDiff, Nat.reduceAdd, Nat.reduceLeDiff, Nat.reduceLT]
    have := ho.next (by omega) ho1 hfr1 hof2
    refine Stand.keep (n := n' + 2 + 3 + 1 + 1) ?_ (by omega) (by omega) fun _ _ => rfl
    rw [he, uvF_lt (by omega), List.map_append, ← List.append_assoc]
    rw [low_byte m m0] at this
    exact this
  · have d : decide ((128 : Int) ≤ m) = true := decide_eq_true (by omega)
    simp only [go_sem, reduceIte, Nat.reduceEqDiff, Nat.reduceAdd, Nat.reduceLeDiff, Nat.reduceLT, g1, d]
    refine WX_app2 hlo rows_slice (by simp) (by simp only [List.length_append, List.length_map, List.length_cons, List.length_nil, List.length_take] at hl1 ⊢; omega) (by omega) (by omega) ?_
    intro p1 H1 ho1 hfr1 hof1 hof2
    simp only [go_sem, reduceIte, Nat.reduceEqDiff, Nat.reduceAdd, Nat.reduceLeDiff, Nat.reduceLT, g1]
    have hk0 : k ≠ 0 := fun e => by subst e; omega
    obtain ⟨k, rfl⟩ : ∃ i, k = i + 1 := ⟨k - 1, by omega⟩
    have ek : uvF (k + 1) m.toNat = UInt8.ofNat (m.toNat % 128 + 128) :: uvF k (m.toNat / 128) := by rw [uvF, if_neg (by omega)]
    have em : m.fdiv (2 ^ min (Int.toNat 7) 64) = ((m.toNat / 128 : Nat) : Int) := by
      show m.fdiv 128 = _
      rw [Int.fdiv_eq_ediv_of_nonneg _ (by omega)]
      omega
    refine ⟨by omega, k, by omega, (m.toNat / 128 : Nat), pre ++ [UInt8.ofNat (m.toNat % 128 + 128)], by rw [em], by omega, ?_, by simp; omega, by omega, by omega, ?_, ?_⟩
    · rw [Int.toNat_natCast]
      rw [Nat.pow_succ] at m1
      exact Nat.div_lt_of_lt_mul (by rw [Nat.mul_comm]; exact m1)
    · have := ho.next (by omega) ho1 hfr1 hof2
      refine Stand.keep (n := n' + 2 + 5 + 1 + 1) ?_ (by omega) (by omega) fun _ _ => rfl
      rw [List.map_append, ← List.append_assoc]
      show Stand true 5 1 hs H1 _ p1 (rows ++ pre.map bRow ++ [[SV.int .u8 ((UInt8.ofNat (m.toNat % 128 + 128)).toNat : Int)]])
      rw [← low_bit2 m m0 m2]
      exact this
    · rw [he, ek, Int.toNat_natCast, List.append_assoc]
      rfl
theorem Own.fresh {lo k e sz H n nid p rows} (h : Own lo e sz H n p rows) (hf : ∀ j, j ≠ nid → Off p j) (hk : k ≤ nid) : Own k e sz H n p rows := by
  rcases h with h | h | ⟨id, ver, fz, h1, h2, rfl, h⟩
  · exact .inl h
  · exact .inr (.inl h)
  · have : id = nid := by
      apply Classical.byContradiction
      intro hne
      exact hf id hne _ _ _ _ rfl rfl
    exact .inr (.inr ⟨id, ver, fz, by omega, h2, rfl, h⟩)
theorem stand_copy {e : TypeId} {sz : Nat} {hs : List HObj} {H H1 : Ob} {n nid : Nat} {lo : Nat} {p p1 : PV} {all : List (List SV)} (h : Own lo e sz H1 n p1 all) (hf : Fra true nid p p1 H H1) (hk : hs.length ≤ nid) (h0 : ∀ j, j < hs.length → H j = Ob.of hs j) : Stand true e sz hs H1 n p1 all :=
  ⟨h.fresh (fun j hj => (hf j hj).1) hk, fun j hj => by rw [(hf j (by omega)).2]; exact h0 j hj⟩
theorem rows1len {rows : List (List SV)} {l : List UInt8} (h : ∀ c ∈ rows, c.length = 1) : ∀ c ∈ rows ++ l.map bRow, c.length = 1 := by
  intro c hc
  rcases List.mem_append.1 hc with h1 | h1
  · exact h c h1
  · obtain ⟨b, _, rfl⟩ := List.mem_map.1 h1
    rfl
theorem refStr (t : List UInt8) (ht : t.length ≤ 10000000) (rows : List (List SV)) (hr : rows.length ≤ 900000000) (hc : ∀ c ∈ rows, c.length = 1) : AppC true EE 33 5 1 [.s (.str t)] rows (rows ++ (encS t).map bRow) := by
  refine appC_of f33 rfl (by simp) fun hs q hk hq hoff => ?_
  unfold c33
  simp only [go_sem, reduceIte, Nat.reduceEqDiff, Nat.reduceAdd, Nat.reduceLeDiff, Nat.reduceLT]
  rw [u64_nat (by omega)]
  refine WC_app (hq.keep (by omega) (fun _ _ _ _ => rfl)) rfl rfl rfl (refUint _ (by omega) (by omega) rows (by omega) hc) (Nat.le_refl _) (Nat.zero_le _) ?_
  intro p1 H1 ho1 hfr1 hof1 hf
  simp only [go_sem, reduceIte, Nat.reduceEqDiff, Nat.reduceAdd, Nat.reduceLeDiff, Nat.reduceLT]
  have s1 := stand_copy (hs := hs) ho1 hf (by omega) (fun _ _ => rfl)
  have hb := uvE_len t.length
  refine WX_app2 (n := hs.length + 1 + 4 + 1) s1.1 (rows_bytes _ _) (by intro c hc; obtain ⟨b, _, rfl⟩ := List.mem_map.1 hc; rfl) (by simp only [List.length_append, List.length_map, List.length_cons, List.length_nil, List.length_take, Int.toNat_natCast]; omega) (by omega) (by omega) ?_
  intro p2 H2 ho2 hfr2 hof2 hf2
  simp only [go_sem, reduceIte, Nat.reduceEqDiff, Nat.reduceAdd, Nat.reduceLeDiff, Nat.reduceLT]
  have s2 := (s1.keep (n' := hs.length + 1 + 4 + 1 + 1) (by omega) (by omega) (fun _ _ => rfl)).next (nid := hs.length + 1 + 4 + 1 + 1) (by omega) ho2 hfr2 hf2
  refine Stand.keep (n := hs.length + 1 + 4 + 1 + 1 + 1) ?_ (by omega) (by omega) fun _ _ => rfl
  unfold encS
  rw [List.map_append, ← List.append_assoc]
  exact s2
theorem refNum (n : Int) (h0 : 0 ≤ n) (h1 : n < 9223372036854775808) (rows : List (List SV)) (hr : rows.length ≤ 1000000000) (hc : ∀ c ∈ rows, c.length = 1) : AppC true EE 32 5 1 [.s (.int .i64 n)] rows (rows ++ (uvE n.toNat).map bRow) := by
  refine appC_of f32 rfl (by simp) fun hs q hk hq hoff => ?_
  unfold c32
  have hw : IntKind.u64.wrap n = n := by
    show n % 18446744073709551616 = _
    omega
  simp only [go_sem, reduceIte, Nat.reduceEqDiff, Nat.reduceAdd, Nat.reduceLeDiff, Nat.reduceLT, hw]
  refine WC_app (hq.keep (by omega) (fun _ _ _ _ => rfl)) rfl rfl rfl (refUint _ h0 (by omega) rows (by omega) hc) (Nat.le_refl _) (Nat.zero_le _) ?_
  intro p1 H1 ho1 hfr1 hof1 hf
  simp only [go_sem, reduceIte, Nat.reduceEqDiff, Nat.reduceAdd, Nat.reduceLeDiff, Nat.reduceLT]
  exact (stand_copy (hs := hs) ho1 hf (by omega) (fun _ _ => rfl)).keep (by omega) (by omega) fun _ _ => rfl
theorem refNums (s : Slc Int) (hs0 : s.l.length ≤ 1000000) (hi : ∀ i ∈ s.l, 0 ≤ i ∧ i < 9223372036854775808) (rows : List (List SV)) (hr : rows.length ≤ 900000000) (hc : ∀ c ∈ rows, c.length = 1) : AppC true EE 34 5 1 [.s (s.sv intRow)] rows (rows ++ (encI s.l).map bRow) := by
  refine appC_of f34 rfl (by simp) fun hs q hk hq hoff => ?_
  unfold c34
  have hb := uvE_len s.l.length
  simp only [go_sem, reduceIte, Nat.reduceEqDiff, Nat.reduceAdd, Nat.reduceLeDiff, Nat.reduceLT]
  refine WC_app (hq.keep (by omega) (fun _ _ _ _ => rfl)) rfl rfl rfl (refNum _ (by omega) (by omega) rows (by omega) hc) (Nat.le_refl _) (Nat.zero_le _) ?_
  intro p1 H1 ho1 hfr1 hof1 hf
  simp only [go_sem, reduceIte, Nat.reduceEqDiff, Nat.reduceAdd, Nat.reduceLeDiff, Nat.reduceLT]
  have s1 := stand_copy (hs := hs) ho1 hf (by omega) (fun _ _ => rfl)
  refine WP_scan rfl 5 s.l.length (fun _ => True) (fun j T H n => hs.length ≤ n ∧ Stand true 5 1 hs H n (T 0) (rows ++ (uvE s.l.length ++ (s.l.take j).flatMap fun i => uvE i.toNat).map bRow)) rfl ⟨by omega, ?_⟩ ?_ ?_
  · rw [List.take_zero, List.flatMap_nil, List.append_nil]
    exact s1.keep (by omega) (by omega) fun _ _ => rfl
  · rintro j T' H' n' hlt hfT hi' ⟨hn', ho⟩ _
    have g1 : T' 1 = .s (s.sv intRow) := hfT 1 rfl
    clear hfT
    obtain ⟨b0, b1⟩ := hi _ (getD_mem (l := s.l) default hlt)
    have hji : (j : Int) < s.l.length := by omega
    have hj0 : (0 : Int) ≤ j := by omega
    have hfl := flat_len (f := fun i : Int => uvE i.toNat) (K := 10) (l := s.l.take j) fun x _ => uvE_len _
    rw [List.length_take] at hfl
    simp only [go_sem, reduceIte, Nat.reduceEqDiff, Nat.reduceAdd, Nat.reduceLeDiff, Nat.reduceLT, g1, hi', hji, decide_true, ia_int, hj0, and_self, intRow]
    refine ⟨hlt, WC_app (ho.own.keep (n' := n' + 4 + 5) (by omega) (fun _ _ _ _ => rfl)) rfl rfl rfl (refNum _ b0 b1 _ (by simp only [List.length_append, List.length_map]; omega) (rows1len hc)) (Nat.le_refl _) (Nat.zero_le _) ?_⟩
    intro p2 H2 ho2 hfr2 hof2 hf2
    simp only [go_sem, reduceIte, Nat.reduceEqDiff, Nat.reduceAdd, Nat.reduceLeDiff, Nat.reduceLT, hi', wrap_succ (show j < 4611686018427387904 by omega)]
    have s2 := stand_copy (hs := hs) ho2 hf2 (by omega) ho.2
    refine ⟨by omega, ?_⟩
    refine Stand.keep (n := n' + 4 + 5 + 1) ?_ (by omega) (by omega) fun _ _ => rfl
    rw [flat_step hlt, ← List.append_assoc, List.map_append, ← List.append_assoc]
    exact s2
  · rintro T' H' n' hfT hi' ⟨hn', ho⟩ _
    have g1 : T' 1 = .s (s.sv intRow) := hfT 1 rfl
    clear hfT
    rw [List.take_length] at ho
    simp only [go_sem, reduceIte, Nat.reduceEqDiff, Nat.reduceAdd, Nat.reduceLeDiff, Nat.reduceLT, g1, hi', Int.lt_irrefl, decide_false]
    exact ho.keep (by omega) (by omega) fun _ _ => rfl
end Go.Vm
