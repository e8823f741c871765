/- Chapter 23: the reference's Scan. -/
import Derived.Test.YtpnlogofcecjeaaGreatDoorLxYc
set_option linter.unusedVariables false
set_option linter.unusedSimpArgs false
set_option maxRecDepth 100000
namespace Go.Vm
open Go

/-- The reference's choice of a recognizer. -/
def chain10 : SC := .seq (.reg [.tick 3, .act (some 26) [] (.call 12 [.t 25]) [(25, .op (.iv .str (.t 23) (.t 24)) [(23, .x (.t 0)), (24, .x (.t 6))])]] false) (.cond (.x (.t 26)) (.seq
  (.reg [.tick 2, .act (some 30) [] (.call 34 [.t 28, .t 29]) [(28, .x (.t 0)), (29, .x (.t 6))], .need [] (.op (.ext (.t 27) 2) [(27, .x (.t 30))]), .need [] (.op (.ext
  (.t 27) 1) [(27, .x (.t 30))]), .tick 4, .act none [] (.store 3 (.t 7) (.t 31)) [(31, .op (.ext (.t 27) 0) [(27, .x (.t 30))])], .set 8 (.op (.ext (.t 27) 1) [(27, .x (.t
  30))]), .set 9 (.op (.ext (.t 27) 2) [(27, .x (.t 30))]), .tick 2] false) (.seq (.reg [.tick 2] false) (.cond (.op (.un .not (.t 34)) [(34, .x (.t 9))]) (.reg [.set 8 (.x
  (.t 6)), .tick 2] false) .skip))) (.seq (.reg [.tick 3, .act (some 40) [] (.call 15 [.t 39]) [(39, .op (.iv .str (.t 37) (.t 38)) [(37, .x (.t 0)), (38, .x (.t 6))])]]
  false) (.cond (.x (.t 40)) (.reg [.tick 2, .act (some 44) [] (.call 35 [.t 42, .t 43]) [(42, .x (.t 0)), (43, .x (.t 6))], .need [] (.op (.ext (.t 41) 2) [(41, .x (.t
  44))]), .need [] (.op (.ext (.t 41) 1) [(41, .x (.t 44))]), .tick 4, .act none [] (.store 3 (.t 7) (.t 45)) [(45, .op (.ext (.t 41) 0) [(41, .x (.t 44))])], .set 8 (.op
  (.ext (.t 41) 1) [(41, .x (.t 44))]), .set 9 (.op (.ext (.t 41) 2) [(41, .x (.t 44))]), .tick 2] false) (.seq (.reg [.tick 4] false) (.cond (.op (.bin .eql .num (.t 50)
  (.c (.s (.int .u8 39)))) [(50, .op (.iv .str (.t 48) (.t 49)) [(48, .x (.t 0)), (49, .x (.t 6))])]) (.seq (.reg [.tick 2, .act (some 55) [] (.call 36 [.t 53, .t 54])
  [(53, .x (.t 0)), (54, .x (.t 6))], .need [] (.op (.ext (.t 52) 2) [(52, .x (.t 55))]), .need [] (.op (.ext (.t 52) 1) [(52, .x (.t 55))]), .tick 4, .act none [] (.store
  3 (.t 7) (.t 56)) [(56, .op (.ext (.t 52) 0) [(52, .x (.t 55))])], .set 8 (.op (.ext (.t 52) 1) [(52, .x (.t 55))]), .set 9 (.op (.ext (.t 52) 2) [(52, .x (.t 55))]),
  .tick 2] false) (.seq (.reg [.tick 2] false) (.cond (.op (.un .not (.t 59)) [(59, .x (.t 9))]) (.reg [.set 8 (.x (.t 6)), .tick 2] false) .skip))) (.reg [.tick 2, .act
  (some 65) [] (.call 37 [.t 63, .t 64]) [(63, .x (.t 0)), (64, .x (.t 6))], .need [] (.op (.ext (.t 62) 2) [(62, .x (.t 65))]), .need [] (.op (.ext (.t 62) 1) [(62, .x (.t
  65))]), .tick 4, .act none [] (.store 3 (.t 7) (.t 66)) [(66, .op (.ext (.t 62) 0) [(62, .x (.t 65))])], .set 8 (.op (.ext (.t 62) 1) [(62, .x (.t 65))]), .set 9 (.op
  (.ext (.t 62) 2) [(62, .x (.t 65))]), .tick 2] false))))))
theorem c10_eq : c10 = .seq (.reg [.set 2 (.x (.c (.s .nils))), .set 3 (.x (.c (.s (.int .i64 0)))), .set 4 (.x (.c (.s (.int .i64 0)))), .tick 3] false) (.seq (.seq (.reg [.tick 3] false)
  (.cond (.op (.bin .gtr .num (.t 11) (.c (.s (.int .i64 16384)))) [(11, .op (.len .str (.t 10)) [(10, .x (.t 0))])]) (.seq (.reg [.act (some 13) [] (.rows 3 [.int .i64 0,
  .int .i64 0, .str []] 0 []) [], .set 2 (.x (.t 13)), .set 3 (.x (.c (.s (.int .i64 0)))), .set 4 (.x (.c (.s (.int .i64 6)))), .tick 3] false) .ret) .skip)) (.seq (.reg
  [.act (some 14) [] (.rows 3 [.int .i64 0, .int .i64 0, .str []] 0 []) [], .set 5 (.x (.t 14)), .tick 1] false) (.seq (.reg [.tick 1, .act (some 16) [] (.call 33 [.t 15,
  .c (.s (.int .i64 0))]) [(15, .x (.t 0))], .set 6 (.x (.t 16)), .tick 1] false) (.seq (.block 0 (.loop (.seq (.seq (.reg [.tick 4] false) (.cond (.op (.bin .lss .num (.t
  17) (.t 19)) [(17, .x (.t 6)), (19, .op (.len .str (.t 18)) [(18, .x (.t 0))])]) .skip (.exit 0))) (.block 1 (.seq (.reg [.need [] (.op (.build [.int .i64 0, .int .i64 0,
  .str []] []) []), .tick 2, .act (some 7) [] (.alloc 30 [.int .i64 0, .int .i64 0, .str []]) [], .act none [] (.store 3 (.t 7) (.t 21)) [(21, .op (.build [.int .i64 0,
  .int .i64 0, .str []] []) [])], .set 8 (.x (.t 6)), .set 9 (.x (.c (.s (.bool false)))), .tick 2] false) (.seq chain10 (.seq (.seq (.reg [.tick 2] false) (.cond (.op (.un
  .not (.t 69)) [(69, .x (.t 9))]) (.seq (.reg [.act (some 71) [] (.rows 3 [.int .i64 0, .int .i64 0, .str []] 0 []) [], .set 2 (.x (.t 71)), .set 3 (.x (.t 8)), .set 4 (.x
  (.c (.s (.int .i64 3)))), .tick 4] false) .ret) .skip)) (.seq (.reg [.tick 2, .act (some 75) [] (.rows 3 [.int .i64 0, .int .i64 0, .str []] 1 [(0, .t 74)]) [(74, .op
  (.load true 3 (.t 7)) [])], .act (some 76) [] (.app 30 3 (.t 73) (.t 75)) [(73, .x (.t 5))], .set 5 (.x (.t 76)), .tick 1] false) (.reg [.tick 2, .act (some 79) [] (.call
  33 [.t 77, .t 78]) [(77, .x (.t 0)), (78, .x (.t 8))], .set 6 (.x (.t 79)), .tick 1] false))))))))) (.seq (.reg [.set 2 (.x (.t 5)), .set 3 (.op (.len .str (.t 81)) [(81,
  .x (.t 0))]), .set 4 (.x (.c (.s (.int .i64 0)))), .tick 6] false) .ret))))) := rfl
/-- What a found token must be. -/
def Fnd (x : Rc) (a : Nat) (m : Nat) (T : Nat → PV) (H : Ob) : Prop :=
  (x.n = 0 ∧ T 8 = .i64 (a + x.bad.toNat : Nat) ∧ T 9 = .bool false) ∨ (x.n ≠ 0 ∧ T 8 = .i64 (a + x.n : Nat) ∧ T 9 = .bool true ∧ H m = .box 30 ([SV.int .i64 x.k, SV.int .i64 a, SV.str x.t].map .s))
theorem chain_ok {s : List UInt8} {a m : Nat} {T : Nat → PV} {H : Ob} {n : Nat} (ha : a < s.length) (hs : s.length ≤ 1000000) (h0 : T 0 = .str s) (h6 : T 6 = .i64 a) (h7 : T 7 = .ptr m 0) (hH : H m = .box 30 (noTok.map .s)) :
    WP EE chain10 T H n (fun e T1 H1 n1 => e = .normal ∧ n ≤ n1 ∧ (∀ j, j ≠ m → H1 j = H j) ∧ Fnd (recV (s.drop a)) a m T1 H1) := by
  unfold chain10
  have hlt' : (a : Int) < s.length := by omega
  have hd := drop_get ha
  have hd0 : s.drop a ≠ [] := by rw [hd]; simp
  have h00 : (s.drop a).getD 0 0 = s.getD a 0 := by rw [hd]; rfl
  have e39 : decide (((s.getD a 0).toNat : Int) = 39) = decide (s.getD a 0 = 39) := u8d (k := 39) (by omega)
  simp only [go_sem, reduceIte, Nat.reduceEqDiff, Nat.reduceAdd, Nat.reduceLeDiff, Nat.reduceLT, h0, h6, hlt', Int.toNat_natCast]
  refine WC_p rfl rfl (refLetter_ok _) ?_
  cases hb : isLet (s.getD a 0) with
  | true =>
    have hrec : recV (s.drop a) = wordV (s.drop a) := by rw [hd, recV_let hb]
    have hpos : 1 ≤ spn isWd (s.drop a) := by rw [hd]; exact spn_pos (let_wd hb)
    rw [hrec]
    simp only [go_sem, reduceIte, Nat.reduceEqDiff, Nat.reduceAdd, Nat.reduceLeDiff, Nat.reduceLT, h0, h6]
    refine WC_p rfl rfl (refWord_ok s a ha hs) ?_
    cases hk : isKw ((s.drop a).take (spn isWd (s.drop a))) with
    | true =>
      rw [wordV_b (by rw [h00]; exact hb) hk]
      simp only [go_sem, reduceIte, Nat.reduceEqDiff, Nat.reduceAdd, Nat.reduceLeDiff, Nat.reduceLT, h0, h6, h7, hH, ext2.1, ext2.2.1, ext2.2.2]
      exact ⟨by omega, fun j hj => if_neg hj, .inr ⟨by show spn isWd (s.drop a) ≠ 0; omega, rfl, rfl, by rw [set_at, if_pos rfl]⟩⟩
    | false =>
      by_cases h31 : 31 < spn isWd (s.drop a)
      · have e31 : decide (spn isWd (s.drop a) ≤ 31) = false := decide_eq_false (by omega)
        rw [wordV_c (by rw [h00]; exact hb) hk h31]
        simp only [go_sem, reduceIte, Nat.reduceEqDiff, Nat.reduceAdd, Nat.reduceLeDiff, Nat.reduceLT, h0, h6, h7, hH, ext2.1, ext2.2.1, ext2.2.2, e31]
        exact ⟨by omega, fun j hj => if_neg hj, .inl ⟨rfl, rfl, rfl⟩⟩
      · have e31 : decide (spn isWd (s.drop a) ≤ 31) = true := decide_eq_true (by omega)
        rw [wordV_d (by rw [h00]; exact hb) hk h31]
        simp only [go_sem, reduceIte, Nat.reduceEqDiff, Nat.reduceAdd, Nat.reduceLeDiff, Nat.reduceLT, h0, h6, h7, hH, ext2.1, ext2.2.1, ext2.2.2, e31]
        exact ⟨by omega, fun j hj => if_neg hj, .inr ⟨by show spn isWd (s.drop a) ≠ 0; omega, rfl, rfl, by rw [set_at, if_pos rfl]⟩⟩
  | false =>
    simp only [go_sem, reduceIte, Nat.reduceEqDiff, Nat.reduceAdd, Nat.reduceLeDiff, Nat.reduceLT, h0, h6, hlt', Int.toNat_natCast]
    refine WC_p rfl rfl (refDigit_ok _) ?_
    cases hdg : isDig (s.getD a 0) with
    | true =>
      have hrec : recV (s.drop a) = intV (s.drop a) := by rw [hd, recV_dig hb hdg]
      have hpos : 1 ≤ spn isDig (s.drop a) := by rw [hd]; exact spn_pos hdg
      have hgd : (s.drop a).getD (spn isDig (s.drop a)) 0 = s.getD (a + spn isDig (s.drop a)) 0 := getD_drop
      have hdl : (s.drop a).length = s.length - a := List.length_drop
      rw [hrec]
      simp only [go_sem, reduceIte, Nat.reduceEqDiff, Nat.reduceAdd, Nat.reduceLeDiff, Nat.reduceLT, h0, h6]
      refine WC_p rfl rfl (refInt_ok s a ha hdg hs) ?_
      unfold intR
      by_cases hov : 9223372036854775807 < dv (digT ((s.drop a).take (spn isDig (s.drop a))))
      · rw [if_pos hov, intV_b (by omega) hov]
        simp only [go_sem, reduceIte, Nat.reduceEqDiff, Nat.reduceAdd, Nat.reduceLeDiff, Nat.reduceLT, h0, h6, h7, hH, ext2.1, ext2.2.1, ext2.2.2]
        exact ⟨by omega, fun j hj => if_neg hj, .inl ⟨rfl, rfl, rfl⟩⟩
      · rw [if_neg hov]
        by_cases hwd : a + spn isDig (s.drop a) < s.length ∧ isWd (s.getD (a + spn isDig (s.drop a)) 0) = true
        · rw [if_pos hwd, intV_c (by omega) hov ⟨by omega, by rw [hgd]; exact hwd.2⟩]
          simp only [go_sem, reduceIte, Nat.reduceEqDiff, Nat.reduceAdd, Nat.reduceLeDiff, Nat.reduceLT, h0, h6, h7, hH, ext2.1, ext2.2.1, ext2.2.2]
          exact ⟨by omega, fun j hj => if_neg hj, .inl ⟨rfl, rfl, rfl⟩⟩
        · rw [if_neg hwd, intV_d (by omega) hov (fun h => hwd ⟨by omega, by rw [← hgd]; exact h.2⟩)]
          simp only [go_sem, reduceIte, Nat.reduceEqDiff, Nat.reduceAdd, Nat.reduceLeDiff, Nat.reduceLT, h0, h6, h7, hH, ext2.1, ext2.2.1, ext2.2.2]
          exact ⟨by omega, fun j hj => if_neg hj, .inr ⟨by show spn isDig (s.drop a) ≠ 0; omega, rfl, rfl, by rw [set_at, if_pos rfl]⟩⟩
    | false =>
      by_cases hq : s.getD a 0 = 39
      · have hrec : recV (s.drop a) = quotV (s.drop a) := by rw [hd, hq, recV_q]
        have hdd : (s.drop a).drop 1 = s.drop (a + 1) := List.drop_drop
        rw [decide_eq_true hq] at e39
        rw [hrec]
        simp only [go_sem, reduceIte, Nat.reduceEqDiff, Nat.reduceAdd, Nat.reduceLeDiff, Nat.reduceLT, h0, h6, hlt', Int.toNat_natCast, e39]
        refine WC_p rfl rfl (refQuoted_ok s a ha hs) ?_
        cases hqv : qv (s.drop (a + 1)) with
        | none =>
          rw [qR_none hqv, quotV_b (by rw [h00]; exact hq) (by rw [hdd]; exact hqv)]
          simp only [go_sem, reduceIte, Nat.reduceEqDiff, Nat.reduceAdd, Nat.reduceLeDiff, Nat.reduceLT, h0, h6, h7, hH, ext2.1, ext2.2.1, ext2.2.2]
          exact ⟨by omega, fun j hj => if_neg hj, .inl ⟨rfl, rfl, rfl⟩⟩
        | some p =>
          obtain ⟨t, k⟩ := p
          rw [qR_some hqv, quotV_c (by rw [h00]; exact hq) (by rw [hdd]; exact hqv)]
          by_cases h255 : 255 < t.length
          · have e31 : decide (t.length ≤ 255) = false := decide_eq_false (by omega)
            rw [if_pos h255]
            simp only [go_sem, reduceIte, Nat.reduceEqDiff, Nat.reduceAdd, Nat.reduceLeDiff, Nat.reduceLT, h0, h6, h7, hH, ext2.1, ext2.2.1, ext2.2.2, e31]
            exact ⟨by omega, fun j hj => if_neg hj, .inl ⟨rfl, rfl, rfl⟩⟩
          · have e31 : decide (t.length ≤ 255) = true := decide_eq_true (by omega)
            rw [if_neg h255]
            simp only [go_sem, reduceIte, Nat.reduceEqDiff, Nat.reduceAdd, Nat.reduceLeDiff, Nat.reduceLT, h0, h6, h7, hH, ext2.1, ext2.2.1, ext2.2.2, e31]
            exact ⟨by omega, fun j hj => if_neg hj, .inr ⟨by show k + 1 ≠ 0; omega, by show PV.i64 ((a + 1 + k : Nat) : Int) = PV.i64 ((a + (k + 1) : Nat) : Int); rw [Nat.add_assoc, Nat.add_comm 1 k], rfl, by rw [set_at, if_pos rfl]⟩⟩
      · have hrec : recV (s.drop a) = symR (s.drop a) := by rw [hd, recV_sym hb hdg hq]
        rw [decide_eq_false hq] at e39
        rw [hrec]
        simp only [go_sem, reduceIte, Nat.reduceEqDiff, Nat.reduceAdd, Nat.reduceLeDiff, Nat.reduceLT, h0, h6, hlt', Int.toNat_natCast, e39]
        refine WC_p rfl rfl (refSym_ok s a ha hs) ?_
        cases hF : symF (s.drop a) with
        | none =>
          have e : symR (s.drop a) = noRc (-1) := by unfold symR; rw [hF]
          rw [symRR_none hF, e]
          simp only [go_sem, reduceIte, Nat.reduceEqDiff, Nat.reduceAdd, Nat.reduceLeDiff, Nat.reduceLT, h0, h6, h7, hH, ext2.1, ext2.2.1, ext2.2.2]
          exact ⟨by omega, fun j hj => if_neg hj, .inl ⟨rfl, rfl, rfl⟩⟩
        | some x =>
          have e : symR (s.drop a) = ⟨4, x, x.length, -1⟩ := by unfold symR; rw [hF]
          have hl := (symF_len hF).1
          rw [symRR_some hF, e]
          simp only [go_sem, reduceIte, Nat.reduceEqDiff, Nat.reduceAdd, Nat.reduceLeDiff, Nat.reduceLT, h0, h6, h7, hH, ext2.1, ext2.2.1, ext2.2.2]
          exact ⟨by omega, fun j hj => if_neg hj, .inr ⟨by show x.length ≠ 0; omega, rfl, rfl, by rw [set_at, if_pos rfl]⟩⟩
theorem refScan_ok (s : List UInt8) (hs : s.length ≤ 1000000) : ∃ v, calL EE 10 [.str s] [] = some (.ret v, []) ∧
    ((16384 < s.length ∧ v = .tuple [.s (.slice [] true), .i64 0, .i64 6]) ∨ (s.length ≤ 16384 ∧ ((∃ e, scanV s = .error e ∧ v = .tuple [.s (.slice [] true), .i64 e, .i64 3]) ∨ ∃ (l : List Tok) (q : Slc Tok), scanV s = .ok l ∧ q.l = l ∧ v = .tuple [.s (q.sv Tok.row), .i64 s.length, .i64 0]))) := by
  refine fn_ex f10 (by simp) ?_
  rw [c10_eq]
  simp only [go_sem, reduceIte, Nat.reduceEqDiff, Nat.reduceAdd, Nat.reduceLeDiff, Nat.reduceLT, decide_eq_true_eq, rows0]
  by_cases h16 : 16384 < s.length
  · rw [if_pos (by omega)]
    exact .inl h16
  · rw [if_neg (by omega)]
    refine WC_p rfl rfl (blank_at s 0 (by omega) hs) ?_
    rw [List.drop_zero, Nat.zero_add]
    simp only [go_sem, reduceIte, Nat.reduceEqDiff, Nat.reduceAdd, Nat.reduceLeDiff, Nat.reduceLT]
    have hsk := skN_le s
    refine WP_loop rfl (fun k T H n => ∃ (a f : Nat) (l : List Tok), a + k = s.length ∧ s.length - a ≤ f ∧ T 6 = .i64 a ∧ Own 0 30 3 H n (T 5) (l.map Tok.row) ∧ l.length ≤ a ∧ scanV s = app l (scanF f (s.drop a) a)) (k0 := s.length - skN s) ⟨skN s, s.length, [], by omega, by omega, rfl, .lit, by simp, ?_⟩ ?_
    · unfold scanV
      rw [skN_drop]
      cases scanF s.length (sk false s) (skN s) <;> rfl
    rintro k T' H' n' hf ⟨a, f, l, hak, hfu, h6, ho, hll, hsc⟩
    have h0 : T' 0 = .str s := hf 0 rfl
    clear hf
    by_cases hlt : a < s.length
    · have hlt' : (a : Int) < s.length := by omega
      simp only [go_sem, reduceIte, Nat.reduceEqDiff, Nat.reduceAdd, Nat.reduceLeDiff, Nat.reduceLT, h0, h6, hlt', decide_true]
      have hd0 : s.drop a ≠ [] := fun e => by
        have := congrArg List.length e
        rw [List.length_drop, List.length_nil] at this
        omega
      have hrl : (s.drop a).length = s.length - a := List.length_drop
      generalize hHb : H'.set _ _ = H0
      have hB : H0 (n' + 4 + 2) = .box 30 (noTok.map .s) := by rw [← hHb, set_at, if_pos rfl]
      have hK : ∀ j, j ≠ n' + 4 + 2 → H0 j = H' j := fun j hj => by rw [← hHb, set_at, if_neg hj]
      refine WP_mid rfl (chain_ok (a := a) (m := n' + 4 + 2) hlt hs h0 h6 rfl hB) ?_
      rintro e T1 H1 n1 hf ⟨rfl, hn1, hfr, hF⟩
      have g0 : T1 0 = .str s := (hf 0 rfl).trans h0
      have g5 : T1 5 = T' 5 := hf 5 rfl
      have g6 : T1 6 = .i64 a := (hf 6 rfl).trans h6
      have g7 : T1 7 = .ptr (n' + 4 + 2) 0 := hf 7 rfl
      clear hf
      have hrn := recV_n hd0
      have hrb := @recV_bad (s.drop a)
      obtain ⟨f, rfl⟩ : ∃ f', f = f' + 1 := ⟨f - 1, by omega⟩
      rw [scanF, if_neg hd0] at hsc
      have hdd : ∀ k, (s.drop a).drop k = s.drop (a + k) := fun k => List.drop_drop
      rw [hdd] at hsc
      generalize recV (s.drop a) = x at hF hrn hrb hsc
      rcases hF with ⟨hx0, g8, g9⟩ | ⟨hx0, g8, g9, hb1⟩
      · rw [if_pos hx0] at hsc
        simp only [go_sem, reduceIte, Nat.reduceEqDiff, Nat.reduceAdd, Nat.reduceLeDiff, Nat.reduceLT, g8, g9, rows0]
        exact .inr ⟨by omega, .inl ⟨_, hsc, rfl⟩⟩
      · rw [if_neg hx0] at hsc
        simp only [go_sem, reduceIte, Nat.reduceEqDiff, Nat.reduceAdd, Nat.reduceLeDiff, Nat.reduceLT, g0, g6, g7, g8, g9, hb1]
        have er : ∀ {HH : Ob}, row1 3 false HH (.st [SV.int .i64 x.k, SV.int .i64 a, SV.str x.t]) = some ([SV.int .i64 x.k, SV.int .i64 a, SV.str x.t], HH) := row1_st rfl
        rw [er, WX_some]
        have ho1 : Own 0 30 3 H1 n' (T1 5) (l.map Tok.row) := by
          rw [g5]
          exact ho.kept (Nat.le_refl _) (fun j _ hj => by rw [hfr j (by omega), hK j (by omega)])
        refine WX_app ho1 rows_slice (by simp) (by simp; omega) (by omega) (by omega) ?_
        intro p1 H2 ho2 hfr2 hof2
        have hsk2 := skN_le (s.drop (a + x.n))
        rw [List.length_drop] at hsk2
        simp only [go_sem, reduceIte, Nat.reduceEqDiff, Nat.reduceAdd, Nat.reduceLeDiff, Nat.reduceLT, g0, g6, g7, g8]
        refine WC_p rfl rfl (blank_at s (a + x.n) (by omega) hs) ?_
        simp only [go_sem, reduceIte, Nat.reduceEqDiff, Nat.reduceAdd, Nat.reduceLeDiff, Nat.reduceLT]
        rw [← skN_drop (s.drop (a + x.n)), List.drop_drop] at hsc
        generalize skN (s.drop (a + x.n)) = m at hsc hsk2 ⊢
        refine ⟨s.length - (a + x.n + m), by omega, a + x.n + m, f, l ++ [⟨x.k, a, x.t⟩], by omega, by omega, rfl, ?_, by simp; omega, ?_⟩
        · rw [List.map_append]
          exact ho2.kept (by omega) (fun _ _ _ => rfl)
        · rw [hsc]
          cases scanF f (s.drop (a + x.n + m)) (a + x.n + m) with
          | error e => rfl
          | ok r => simp [app]
    · have hlt' : ¬ (a : Int) < s.length := by omega
      simp only [go_sem, reduceIte, Nat.reduceEqDiff, Nat.reduceAdd, Nat.reduceLeDiff, Nat.reduceLT, h0, h6, hlt', decide_false]
      have hd0 : s.drop a = [] := List.drop_of_length_le (by omega)
      rw [hd0] at hsc
      have hsc' : scanV s = .ok l := by
        rw [hsc]
        cases f with
        | zero => simp [scanF, app]
        | succ f => simp [scanF, app]
      obtain ⟨q, hq1, hq2⟩ := ho.back
      simp only [go_sem, reduceIte, Nat.reduceEqDiff, Nat.reduceAdd, Nat.reduceLeDiff, Nat.reduceLT, hq1]
      exact .inr ⟨by omega, .inr ⟨l, q, hsc', hq2, rfl⟩⟩
theorem scan_big (s : List UInt8) (h : 16384 < s.length) : calL EE 9 [.str s] [] = some (.ret (.tuple [.s .nils, .i64 0, .i64 6]), []) := by
  refine fn_ok f9 (by simp) ?_
  unfold c9
  have h' : decide ((16384 : Int) < s.length) = true := decide_eq_true (by omega)
  simp only [go_sem, reduceIte, Nat.reduceEqDiff, Nat.reduceAdd, Nat.reduceLeDiff, Nat.reduceLT, h']
theorem refScan_big (s : List UInt8) (h : 16384 < s.length) : calL EE 10 [.str s] [] = some (.ret (.tuple [.s (.slice [] true), .i64 0, .i64 6]), []) := by
  refine fn_ok f10 (by simp) ?_
  rw [c10_eq]
  have h' : decide ((16384 : Int) < s.length) = true := decide_eq_true (by omega)
  simp only [go_sem, reduceIte, Nat.reduceEqDiff, Nat.reduceAdd, Nat.reduceLeDiff, Nat.reduceLT, h', rows0]
theorem t3 (s : List UInt8) (hs : s.length ≤ 9223372036854775807) : ∃ H' n', runL EE 3 [.str s] (Ob.of []) 0 = some (.ret (.bool true), H', n') := by
  refine run_true ?_
  refine fn_run (R := fun v _ _ => v = .bool true) f3 (by simp) ?_
  unfold c3
  simp only [go_sem, reduceIte, Nat.reduceEqDiff, Nat.reduceAdd, Nat.reduceLeDiff, Nat.reduceLT]
  refine WC_p rfl rfl awake23 ?_
  simp only [go_sem, reduceIte, Nat.reduceEqDiff, Nat.reduceAdd, Nat.reduceLeDiff, Nat.reduceLT, Bool.not_true, Bool.false_or, Bool.and_eq_true, decide_eq_true_eq]
  by_cases h600 : 600 < s.length ∧ s.length ≤ 16384
  · rw [if_pos (by omega)]
    refine WC_p rfl rfl awake23 ?_
    simp only [go_sem, reduceIte, Nat.reduceEqDiff, Nat.reduceAdd, Nat.reduceLeDiff, Nat.reduceLT]
  · rw [if_neg (by omega)]
    by_cases h16 : 16384 < s.length
    · refine WC_p rfl rfl (scan_big s h16) ?_
      simp only [go_sem, reduceIte, Nat.reduceEqDiff, Nat.reduceAdd, Nat.reduceLeDiff, Nat.reduceLT, ext2.1, ext2.2.1, ext2.2.2]
      refine WC_p rfl rfl (refScan_big s h16) ?_
      simp only [go_sem, reduceIte, Nat.reduceEqDiff, Nat.reduceAdd, Nat.reduceLeDiff, Nat.reduceLT, ext2.1, ext2.2.1, ext2.2.2]
      refine WC_p rfl rfl (same_ok .nil (.mk [] true) (by simp [Slc.l]) rfl) ?_
      simp only [go_sem, reduceIte, Nat.reduceEqDiff, Nat.reduceAdd, Nat.reduceLeDiff, Nat.reduceLT, decide_true, Bool.and_self]
      try rfl
    · obtain ⟨v, hv, hr⟩ := scan_ok s (by omega)
      obtain ⟨v2, hv2, hr2⟩ := refScan_ok s (by omega)
      rcases hr with ⟨h, _⟩ | ⟨_, hr⟩
      · exact absurd h h16
      rcases hr2 with ⟨h, _⟩ | ⟨_, hr2⟩
      · exact absurd h h16
      refine WC_p rfl rfl hv ?_
      rcases hr with ⟨e, he, rfl⟩ | ⟨l, q, hl, hq, rfl⟩
      · rcases hr2 with ⟨e2, he2, rfl⟩ | ⟨l2, q2, hl2, hq2, rfl⟩
        · rw [he] at he2
          injection he2 with he2
          subst he2
          simp only [go_sem, reduceIte, Nat.reduceEqDiff, Nat.reduceAdd, Nat.reduceLeDiff, Nat.reduceLT, ext2.1, ext2.2.1, ext2.2.2]
          refine WC_p rfl rfl hv2 ?_
          simp only [go_sem, reduceIte, Nat.reduceEqDiff, Nat.reduceAdd, Nat.reduceLeDiff, Nat.reduceLT, ext2.1, ext2.2.1, ext2.2.2]
          refine WC_p rfl rfl (same_ok .nil (.mk [] true) (by simp [Slc.l]) rfl) ?_
          simp only [go_sem, reduceIte, Nat.reduceEqDiff, Nat.reduceAdd, Nat.reduceLeDiff, Nat.reduceLT, decide_true, Bool.and_self]
          try rfl
        · rw [he] at hl2; cases hl2
      · rcases hr2 with ⟨e2, he2, rfl⟩ | ⟨l2, q2, hl2, hq2, rfl⟩
        · rw [hl] at he2; cases he2
        · rw [hl] at hl2
          injection hl2 with hl2
          have hlen : q.l.length ≤ 1000000 := by have := scan_len _ hl; rw [hq]; omega
          simp only [go_sem, reduceIte, Nat.reduceEqDiff, Nat.reduceAdd, Nat.reduceLeDiff, Nat.reduceLT, ext2.1, ext2.2.1, ext2.2.2]
          refine WC_p rfl rfl hv2 ?_
          simp only [go_sem, reduceIte, Nat.reduceEqDiff, Nat.reduceAdd, Nat.reduceLeDiff, Nat.reduceLT, ext2.1, ext2.2.1, ext2.2.2]
          refine WC_p rfl rfl (same_ok q q2 hlen (by rw [hq, hq2, hl2])) ?_
          simp only [go_sem, reduceIte, Nat.reduceEqDiff, Nat.reduceAdd, Nat.reduceLeDiff, Nat.reduceLT, decide_true, Bool.and_self]
          try rfl
end Go.Vm
