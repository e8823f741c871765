/- Numbers and texts as bytes; the functions that append them. -/
import Derived.Test.YtfgkhgkgaedcmaaGreatCbJ
import Derived.Test.YtfgkhgkgaedcmaaGreatCbM
set_option linter.unusedVariables false
set_option linter.unusedSimpArgs false
set_option maxRecDepth 100000
namespace Go.Vm

def bRow (b : UInt8) : List SV := [.int .u8 b.toNat]
/-- A number in groups of seven bits. -/
def uvF : Nat → Nat → List UInt8
  | 0, n => [UInt8.ofNat n]
  | k + 1, n => if n < 128 then [UInt8.ofNat n] else UInt8.ofNat (n % 128 + 128) :: uvF k (n / 128)
def uvE (n : Nat) : List UInt8 := uvF 9 n
theorem uvF_len : ∀ k n, (uvF k n).length ≤ k + 1
  | 0, n => by simp [uvF]
  | k + 1, n => by
    rw [uvF]
    split
    · simp
    · rw [List.length_cons]
      have := uvF_len k (n / 128)
      omega
theorem uvE_len (n : Nat) : (uvE n).length ≤ 10 := uvF_len 9 n
theorem low_or : ∀ x : Nat, x < 256 → (BitVec.ofInt 8 (x : Int) ||| BitVec.ofInt 8 128).toNat = x % 128 + 128 := by decide
theorem low_byte (m : Int) (h0 : 0 ≤ m) : IntKind.u8.wrap m = ((UInt8.ofNat m.toNat).toNat : Int) := by
  obtain ⟨k, rfl⟩ := Int.eq_ofNat_of_zero_le h0
  rw [Int.toNat_natCast]
  show (k : Int) % 256 = _
  have : (UInt8.ofNat k).toNat = k % 256 := by simp
  rw [this]
  omega
theorem low_bit (m : Int) (h0 : 0 ≤ m) : IntKind.u8.wrap ((BitVec.ofInt IntKind.u8.bits (IntKind.u8.wrap m) ||| BitVec.ofInt IntKind.u8.bits 128).toNat) = ((UInt8.ofNat (m.toNat % 128 + 128)).toNat : Int) := by
  show IntKind.u8.wrap ((BitVec.ofInt 8 (IntKind.u8.wrap m) ||| BitVec.ofInt 8 128).toNat) = _
  obtain ⟨k, rfl⟩ := Int.eq_ofNat_of_zero_le h0
  rw [Int.toNat_natCast]
  have e : IntKind.u8.wrap (k : Int) = ((k % 256 : Nat) : Int) := by
    show (k : Int) % 256 = _
    omega
  rw [e, low_or _ (by omega)]
  show ((k % 256 % 128 + 128 : Nat) : Int) % 256 = _
  have : (UInt8.ofNat (k % 128 + 128)).toNat = (k % 128 + 128) % 256 := by simp
  rw [this]
  omega
theorem uvF_lt {k n : Nat} (h : n < 128) : uvF k n = [UInt8.ofNat n] := by
  cases k with
  | zero => rfl
  | succ k => rw [uvF, if_pos h]
theorem appUint (n : Int) (h0 : 0 ≤ n) (h1 : n < 18446744073709551616) (rows : List (List SV)) (hr : rows.length ≤ 1000000000) : AppC false EE 17 5 1 [.s (.int .u64 n)] rows (rows ++ (uvE n.toNat).map bRow) := by
  refine appC_of f17 rfl (by simp) fun hs q hk hq hoff => ?_
  unfold c17
  simp only [go_sem, reduceIte, Nat.reduceEqDiff, Nat.reduceAdd, Nat.reduceLeDiff, Nat.reduceLT]
  have st0 : Stand false 5 1 hs (Ob.of hs) hs.length q rows := ⟨hq, hoff⟩
  refine WP_loop rfl (fun k T H n' => ∃ (m : Int) (pre : List UInt8), T 1 = .s (.int .u64 m) ∧ 0 ≤ m ∧ m.toNat < 128 ^ (k + 1) ∧ pre.length + k ≤ 9 ∧ hs.length ≤ n' ∧ Stand false 5 1 hs H n' (T 0) (rows ++ pre.map bRow) ∧ uvE n.toNat = pre ++ uvF k m.toNat) (k0 := 9)
    ⟨n, [], rfl, h0, by omega, by simp, by omega, by rw [List.map_nil, List.append_nil]; exact st0.keep (Nat.le_refl _) (by omega) (fun _ _ => rfl), rfl⟩ ?_
  rintro k T' H' n' hf ⟨m, pre, g1, m0, m1, hp, hn, ho, he⟩
  clear hf
  have hl1 : (rows ++ pre.map bRow).length ≤ 1000000010 := by rw [List.length_append, List.length_map]; omega
  have hlo := ho.own
  by_cases hlt : m < 128
  · have d : decide ((128 : Int) ≤ m) = false := decide_eq_false (by omega)
    simp only [go_sem, reduceIte, Nat.reduceEqDiff, Nat.reduceAdd, Nat.reduceLeDiff, Nat.reduceLT, g1, d]
    refine WX_app2 hlo rows_slice (by simp) (by simp only [List.length_append, List.length_map, List.length_cons, List.length_nil, List.length_take] at hl1 ⊢; omega) (by omega) (by omega) ?_
    intro p1 H1 ho1 hfr1 hof1 hof2
    simp only [go_sem, reduceIte, Nat.reduceEqDiff, Nat.reduceAdd, Nat.reduceLeDiff, Nat.reduceLT]
    have := ho.next (by omega) ho1 hfr1 hof2
    refine Stand.keep (n := n' + 2 + 3 + 1 + 1) ?_ (by omega) (by omega) fun _ _ => rfl
    rw [he, uvF_lt (by omega), List.map_append, ← List.append_assoc]
    rw [low_byte m m0] at this
    exact this
  · have d : decide ((128 : Int) ≤ m) = true := decide_eq_true (by omega)
    simp only [go_sem, reduceIte, Nat.reduceEqDiff, Nat.reduceAdd, Nat.reduceLeDiff, Nat.reduceLT, g1, d]
    refine WX_app2 hlo rows_slice (by simp) (by simp only [List.length_append, List.length_map, List.length_cons, List.length_nil, List.length_take] at hl1 ⊢; omega) (by omega) (by omega) ?_
    intro p1 H1 ho1 hfr1 hof1 hof2
    simp only [go_sem, reduceIte, Nat.reduceEqDiff, Nat.reduceAdd, Nat.reduceLeDiff, Nat.reduceLT, g1]
    have hk0 : k ≠ 0 := fun e => by subst e; omega
    obtain ⟨k, rfl⟩ : ∃ i, k = i + 1 := ⟨k - 1, by omega⟩
    have ek : uvF (k + 1) m.toNat = UInt8.ofNat (m.toNat % 128 + 128) :: uvF k (m.toNat / 128) := by rw [uvF, if_neg (by omega)]
    have em : m.fdiv (2 ^ min (Int.toNat 7) 64) = ((m.toNat / 128 : Nat) : Int) := by
      show m.fdiv 128 = _
      rw [Int.fdiv_eq_ediv_of_nonneg _ (by omega)]
      omega
    refine ⟨by omega, k, by omega, (m.toNat / 128 : Nat), pre ++ [UInt8.ofNat (m.toNat % 128 + 128)], by rw [em], by omega, ?_, by simp; omega, by omega, ?_, ?_⟩
    · rw [Int.toNat_natCast]
      rw [Nat.pow_succ] at m1
      exact Nat.div_lt_of_lt_mul (by rw [Nat.mul_comm]; exact m1)
    · have := ho.next (by omega) ho1 hfr1 hof2
      refine Stand.keep (n := n' + 2 + 4 + 1 + 1) ?_ (by omega) (by omega) fun _ _ => rfl
      rw [List.map_append, ← List.append_assoc]
      show Stand false 5 1 hs H1 _ p1 (rows ++ pre.map bRow ++ [[SV.int .u8 ((UInt8.ofNat (m.toNat % 128 + 128)).toNat : Int)]])
      rw [← low_bit m m0]
      exact this
    · rw [he, ek, Int.toNat_natCast, List.append_assoc]
      rfl
/-- A text's bytes as rows. -/
theorem rows_bytes (l : List UInt8) (H : Ob) : rowsOf H (.s (.str l)) = some (l.map bRow) := rfl
def encS (s : List UInt8) : List UInt8 := uvE s.length ++ s
theorem u64_nat {n : Nat} (h : n < 18446744073709551616) : IntKind.u64.wrap (n : Int) = n := by
  show (n : Int) % 18446744073709551616 = n
  omega
theorem appStr (t : List UInt8) (ht : t.length ≤ 10000000) (rows : List (List SV)) (hr : rows.length ≤ 900000000) : AppC false EE 18 5 1 [.s (.str t)] rows (rows ++ (encS t).map bRow) := by
  refine appC_of f18 rfl (by simp) fun hs q hk hq hoff => ?_
  unfold c18
  have st0 : Stand false 5 1 hs (Ob.of hs) hs.length q rows := ⟨hq, hoff⟩
  simp only [go_sem, reduceIte, Nat.reduceEqDiff, Nat.reduceAdd, Nat.reduceLeDiff, Nat.reduceLT]
  rw [u64_nat (by omega)]
  refine WC_app (hq.keep (by omega) (fun _ _ _ _ => rfl)) rfl rfl rfl (appUint _ (by omega) (by omega) rows (by omega)) (Nat.le_refl _) (Nat.zero_le _) ?_
  intro p1 H1 ho1 hfr1 hof1 hf
  simp only [go_sem, reduceIte, Nat.reduceEqDiff, Nat.reduceAdd, Nat.reduceLeDiff, Nat.reduceLT]
  have s1 := (st0.keep (n' := hs.length + 1 + 4) (H' := Ob.of hs) (Nat.le_refl _) (by omega) (fun _ _ => rfl)).next (nid := hs.length + 1 + 4) (by omega) ho1 hfr1 hf
  have hb := uvE_len t.length
  refine WX_app2 (n := hs.length + 1 + 4 + 1) s1.own (rows_bytes _ _) (by intro c hc; obtain ⟨b, _, rfl⟩ := List.mem_map.1 hc; rfl) (by simp only [List.length_append, List.length_map, List.length_cons, List.length_nil, List.length_take, Int.toNat_natCast]; omega) (by omega) (by omega) ?_
  intro p2 H2 ho2 hfr2 hof2 hf2
  simp only [go_sem, reduceIte, Nat.reduceEqDiff, Nat.reduceAdd, Nat.reduceLeDiff, Nat.reduceLT]
  have s2 := (s1.keep (n' := hs.length + 1 + 4 + 1 + 1) (by omega) (by omega) (fun _ _ => rfl)).next (nid := hs.length + 1 + 4 + 1 + 1) (by omega) ho2 hfr2 hf2
  refine Stand.keep (n := hs.length + 1 + 4 + 1 + 1 + 1) ?_ (by omega) (by omega) fun _ _ => rfl
  unfold encS
  rw [List.map_append, ← List.append_assoc]
  exact s2
def encI (l : List Int) : List UInt8 := uvE l.length ++ l.flatMap fun i => uvE i.toNat
theorem flat_len {α : Type} {f : α → List UInt8} {K : Nat} : ∀ {l : List α}, (∀ x ∈ l, (f x).length ≤ K) → (l.flatMap f).length ≤ K * l.length
  | [], _ => Nat.zero_le _
  | a :: l, h => by
    rw [List.flatMap_cons, List.length_append, List.length_cons, Nat.mul_succ]
    have := h a (by simp)
    have := flat_len (l := l) fun x hx => h x (List.mem_cons_of_mem _ hx)
    omega
theorem ints_len (l : List Int) : (l.flatMap fun i => uvE i.toNat).length ≤ 10 * l.length := flat_len fun x _ => uvE_len _
theorem encI_len (l : List Int) : (encI l).length ≤ 10 * l.length + 10 := by
  unfold encI
  rw [List.length_append]
  have := uvE_len l.length
  have := ints_len l
  omega
theorem flat_step {α β : Type} [Inhabited α] {f : α → List β} {l : List α} {j : Nat} (h : j < l.length) : (l.take (j + 1)).flatMap f = (l.take j).flatMap f ++ f (l.getD j default) := by
  rw [take_step default h, List.flatMap_append]
  simp
theorem putInts (s : Slc Int) (hs0 : s.l.length ≤ 1000000) (hi : ∀ i ∈ s.l, 0 ≤ i ∧ i < 9223372036854775808) (rows : List (List SV)) (hr : rows.length ≤ 900000000) : AppC false EE 19 5 1 [.s (s.sv intRow)] rows (rows ++ (encI s.l).map bRow) := by
  refine appC_of f19 rfl (by simp) fun hs q hk hq hoff => ?_
  unfold c19
  have st0 : Stand false 5 1 hs (Ob.of hs) hs.length q rows := ⟨hq, hoff⟩
  have hb := uvE_len s.l.length
  simp only [go_sem, reduceIte, Nat.reduceEqDiff, Nat.reduceAdd, Nat.reduceLeDiff, Nat.reduceLT]
  rw [u64_nat (by omega)]
  refine WC_app (hq.keep (by omega) (fun _ _ _ _ => rfl)) rfl rfl rfl (appUint _ (by omega) (by omega) rows (by omega)) (Nat.le_refl _) (Nat.zero_le _) ?_
  intro p1 H1 ho1 hfr1 hof1 hf
  simp only [go_sem, reduceIte, Nat.reduceEqDiff, Nat.reduceAdd, Nat.reduceLeDiff, Nat.reduceLT]
  have s1 := (st0.keep (n' := hs.length + 1 + 4) (H' := Ob.of hs) (Nat.le_refl _) (by omega) (fun _ _ => rfl)).next (nid := hs.length + 1 + 4) (by omega) ho1 hfr1 hf
  refine WP_scan rfl 14 s.l.length (fun _ => True) (fun j T H n => hs.length ≤ n ∧ Stand false 5 1 hs H n (T 0) (rows ++ (uvE s.l.length ++ (s.l.take j).flatMap fun i => uvE i.toNat).map bRow)) rfl ⟨by omega, ?_⟩ ?_ ?_
  · rw [List.take_zero, List.flatMap_nil, List.append_nil]
    exact s1.keep (by omega) (by omega) fun _ _ => rfl
  · rintro j T' H' n' hlt hfT hi' ⟨hn', ho⟩ _
    have g12 : T' 12 = .s (s.sv intRow) := hfT 12 rfl
    have g13 : T' 13 = .i64 s.l.length := hfT 13 rfl
    clear hfT
    obtain ⟨b0, b1⟩ := hi _ (getD_mem (l := s.l) default hlt)
    have hji : (j : Int) < s.l.length := by omega
    have hj0 : (0 : Int) ≤ j := by omega
    have hw : IntKind.u64.wrap (s.l.getD j default) = s.l.getD j default := by
      show (s.l.getD j default) % 18446744073709551616 = _
      omega
    have hfl := flat_len (f := fun i : Int => uvE i.toNat) (K := 10) (l := s.l.take j) fun x _ => uvE_len _
    rw [List.length_take] at hfl
    simp only [go_sem, reduceIte, Nat.reduceEqDiff, Nat.reduceAdd, Nat.reduceLeDiff, Nat.reduceLT, g12, g13, hi', hji, decide_true, ia_int, hj0, and_self, intRow, hw]
    refine ⟨hlt, WC_app (ho.own.keep (n' := n' + 1 + 3 + 3) (by omega) (fun _ _ _ _ => rfl)) rfl rfl rfl (appUint _ (by omega) (by omega) _ (by simp only [List.length_append, List.length_map]; omega)) (Nat.le_refl _) (Nat.zero_le _) ?_⟩
    intro p2 H2 ho2 hfr2 hof2 hf2
    simp only [go_sem, reduceIte, Nat.reduceEqDiff, Nat.reduceAdd, Nat.reduceLeDiff, Nat.reduceLT, hi', wrap_succ (show j < 4611686018427387904 by omega)]
    have s2 := (ho.keep (n' := n' + 1 + 3 + 3) hn' (by omega) (fun _ _ => rfl)).next (nid := n' + 1 + 3 + 3) (by omega) ho2 hfr2 hf2
    refine ⟨by omega, ?_⟩
    refine Stand.keep (n := n' + 1 + 3 + 3 + 1) ?_ (by omega) (by omega) fun _ _ => rfl
    rw [flat_step hlt, ← List.append_assoc, List.map_append, ← List.append_assoc]
    exact s2
  · rintro T' H' n' hfT hi' ⟨hn', ho⟩ _
    have g13 : T' 13 = .i64 s.l.length := hfT 13 rfl
    clear hfT
    rw [List.take_length] at ho
    simp only [go_sem, reduceIte, Nat.reduceEqDiff, Nat.reduceAdd, Nat.reduceLeDiff, Nat.reduceLT, g13, hi', Int.lt_irrefl, decide_false]
    exact ho.keep (by omega) (by omega) fun _ _ => rfl
end Go.Vm
