/- Chapter 23: the law LexerCase. -/
import Derived.Test.YtpnlogofcecjeaaDoorLxL
set_option linter.unusedVariables false
set_option linter.unusedSimpArgs false
set_option maxRecDepth 100000
namespace Go.Vm
open Go

def xorI (k : IntKind) (a b : Int) : Int := k.wrap ((BitVec.ofInt k.bits a ^^^ BitVec.ofInt k.bits b).toNat)
theorem bi_xor {k : IntKind} {a b : Int} : binM .xor .num (.s (.int k a)) (.s (.int k b)) = some (.s (.int k (xorI k a b))) := by simp [binM, binInt, xorI]
theorem bi_shrG {k k' : IntKind} {a b : Int} : binM .shr .num (.s (.int k a)) (.s (.int k' b)) = gd (0 ≤ b) (.s (.int k (a.fdiv (2 ^ (min b.toNat k.bits))))) := by
  unfold gd
  by_cases h : 0 ≤ b
  · simp [binM, binInt, h, show ¬ b < 0 by omega]
  · simp [binM, binInt, h, show b < 0 by omega]
def flip (b : UInt8) : UInt8 := UInt8.ofNat (xorI .u8 (b.toNat : Int) 32).toNat
theorem flip_val (b : UInt8) : xorI .u8 (b.toNat : Int) 32 = ((flip b).toNat : Int) := by
  refine forall_u8 (P := fun b => xorI .u8 (b.toNat : Int) 32 = ((flip b).toNat : Int)) ?_ b
  have h : ((List.range 256).all fun n => decide (xorI .u8 ((UInt8.ofNat n).toNat : Int) 32 = ((flip (UInt8.ofNat n)).toNat : Int))) = true := by kernel_rfl
  intro n hn
  exact of_decide_eq_true (List.all_eq_true.1 h n (List.mem_range.2 hn))
theorem flip_let (b : UInt8) (hb : isLet b = true) : isLet (flip b) = true ∧ mapB 97 65 b = mapB 97 65 (flip b) ∧ mapB 65 97 b = mapB 65 97 (flip b) := by
  have key : isLet b = true → isLet (flip b) = true ∧ mapB 97 65 b = mapB 97 65 (flip b) ∧ mapB 65 97 b = mapB 65 97 (flip b) := by
    refine forall_u8 (P := fun b => isLet b = true → isLet (flip b) = true ∧ mapB 97 65 b = mapB 97 65 (flip b) ∧ mapB 65 97 b = mapB 65 97 (flip b)) ?_ b
    have h : ((List.range 256).all fun n => !isLet (UInt8.ofNat n) || (isLet (flip (UInt8.ofNat n)) && decide (mapB 97 65 (UInt8.ofNat n) = mapB 97 65 (flip (UInt8.ofNat n))) && decide (mapB 65 97 (UInt8.ofNat n) = mapB 65 97 (flip (UInt8.ofNat n))))) = true := by kernel_rfl
    intro n hn hl
    have := List.all_eq_true.1 h n (List.mem_range.2 hn)
    rw [hl] at this
    simp only [Bool.not_true, Bool.false_or, Bool.and_eq_true, decide_eq_true_eq] at this
    exact ⟨this.1.1, this.1.2, this.2⟩
  exact key hb
theorem Cb.trans {a b c : UInt8} (h : Cb a b) (h' : Cb b c) : Cb a c := by
  rcases h with rfl | ⟨h1, h2, h3, h4⟩
  · exact h'
  · rcases h' with rfl | ⟨g1, g2, g3, g4⟩
    · exact .inr ⟨h1, h2, h3, h4⟩
    · exact .inr ⟨h1, g2, h3.trans g3, h4.trans g4⟩
theorem refLetter_ok (b : UInt8) : calL EE 9 [u8 b] [] = some (.ret (.bool (isLet b)), []) := by
  refine fn_ok f9 (by simp) ?_
  unfold c9 isLet
  simp only [go_sem, reduceIte, Nat.reduceEqDiff, Nat.reduceAdd, Nat.reduceLeDiff, Nat.reduceLT]
  rw [show decide ((65 : Int) ≤ b.toNat) = decide (65 ≤ b.toNat) from decide_eq_decide.2 (by omega), show decide ((b.toNat : Int) ≤ 90) = decide (b.toNat ≤ 90) from decide_eq_decide.2 (by omega),
    show decide ((97 : Int) ≤ b.toNat) = decide (97 ≤ b.toNat) from decide_eq_decide.2 (by omega), show decide ((b.toNat : Int) ≤ 122) = decide (b.toNat ≤ 122) from decide_eq_decide.2 (by omega)]
theorem same_ok (x y : Slc Tok) (hx : x.l.length ≤ 1000000) (h : x.l = y.l) : calL EE 10 [.s (x.sv Tok.row), .s (y.sv Tok.row)] [] = some (.ret (.bool true), []) := by
  have hl : x.l.length = y.l.length := by rw [h]
  refine fn_ok f10 (by simp) ?_
  unfold c10
  have e1 : decide ((x.l.length : Int) = (y.l.length : Int)) = true := decide_eq_true (by omega)
  simp only [go_sem, reduceIte, Nat.reduceEqDiff, Nat.reduceAdd, Nat.reduceLeDiff, Nat.reduceLT, e1, Bool.not_true]
  refine WP_scan rfl 5 x.l.length (fun _ => True) (fun _ _ _ _ => True) rfl trivial ?_ ?_
  · rintro j T' H' n' hlt hf hi _ _
    have h0 : T' 0 = .s (x.sv Tok.row) := hf 0 rfl
    have h1 : T' 1 = .s (y.sv Tok.row) := hf 1 rfl
    clear hf
    have hlt2 : j < y.l.length := by omega
    have hd : decide True = true := rfl
    simp only [go_sem, reduceIte, Nat.reduceEqDiff, Nat.reduceAdd, Nat.reduceLeDiff, Nat.reduceLT, h0, h1, hi, Int.ofNat_lt, hlt, hlt2, decide_true, ia_tok, load_eptr, Tok.row, wrap_suc (show j < 9223372036854775807 by omega), Int.toNat_natCast, h, hd, Bool.not_true, Bool.and_self]
  · rintro T' H' n' hf hi _ _
    have h0 : T' 0 = .s (x.sv Tok.row) := hf 0 rfl
    clear hf
    simp only [go_sem, reduceIte, Nat.reduceEqDiff, Nat.reduceAdd, Nat.reduceLeDiff, Nat.reduceLT, h0, hi, Int.lt_irrefl, decide_false]
theorem steps_le {l : List UInt8} {a : Nat} {ts : List Tok} {l2 : List UInt8} {a2 : Nat} (h : Steps l a ts l2 a2) : ∀ t ∈ ts, wordT t → t.at_ + t.t.length ≤ (a + l.length : Nat) := by
  induction h with
  | nil l a => intro t ht; cases ht
  | cons l a ts l2 a2 h0 hn h ih =>
    intro t ht hw
    have hle := recV_n h0
    rcases List.mem_cons.1 ht with rfl | ht
    · cases l with
      | nil => exact absurd rfl h0
      | cons b r =>
        by_cases hb : isLet b = true
        · have := (recV_word hb hn).2
          simp only
          omega
        · exact absurd hw (recV_other (by simpa using hb) hn)
    · have := ih t ht hw
      have h2 := @sk_len (l.drop (recV l).n) false
      have h3 : skN (l.drop (recV l).n) = (l.drop (recV l).n).length - (sk false (l.drop (recV l).n)).length := rfl
      rw [List.length_drop] at h2 h3
      omega
/-- Bytes in which letters of words may have another case. -/
def Rw (s : List UInt8) (l : List Tok) (w : List UInt8) : Prop := Cf s w ∧ ∀ j, j < s.length → ¬ inW l j → w.getD j 0 = s.getD j 0
theorem Cf.refl : ∀ s, Cf s s
  | [] => trivial
  | b :: r => ⟨.inl rfl, Cf.refl r⟩
theorem Rw.step {s w : List UInt8} {l : List Tok} {i : Nat} (h : Rw s l w) (hi : i < s.length) (hin : inW l i) (hb : isLet (w.getD i 0) = true) : Rw s l (w.set i (flip (w.getD i 0))) := by
  have hl := h.1.len
  have hg : ∀ j, (w.set i (flip (w.getD i 0))).getD j 0 = if j = i then flip (w.getD i 0) else w.getD j 0 := by
    intro j
    rw [List.getD_eq_getElem?_getD, List.getElem?_set]
    by_cases e : j = i
    · subst e
      rw [if_pos rfl, if_pos (by omega), if_pos rfl]; rfl
    · rw [if_neg (fun h => e h.symm), if_neg e, List.getD_eq_getElem?_getD]
  refine ⟨Cf.of (by rw [List.length_set]; exact hl) (fun j hj => ?_), fun j hj hno => ?_⟩
  · rw [hg]
    split
    · rename_i e
      subst e
      obtain ⟨g1, g2, g3⟩ := flip_let _ hb
      exact (h.1.at_ j).trans (.inr ⟨hb, g1, g2, g3⟩)
    · exact h.1.at_ j
  · rw [hg, if_neg (fun e => hno (by rw [e]; exact hin))]
    exact h.2 j hj hno
theorem t4 (s : List UInt8) (bits : Int) (hs : s.length ≤ 9223372036854775807) (hbits : 0 ≤ bits ∧ bits ≤ 18446744073709551615) : ∃ H' n', runL EE 4 [.str s, .s (.int .u64 bits)] (Ob.of []) 0 = some (.ret (.bool true), H', n') := by
  refine run_true ?_
  refine fn_run (R := fun v _ _ => v = .bool true) f4 (by simp) ?_
  unfold c4
  simp only [go_sem, reduceIte, Nat.reduceEqDiff, Nat.reduceAdd, Nat.reduceLeDiff, Nat.reduceLT]
  refine WC_p rfl rfl awake23 ?_
  simp only [go_sem, reduceIte, Nat.reduceEqDiff, Nat.reduceAdd, Nat.reduceLeDiff, Nat.reduceLT, Bool.not_true, decide_eq_true_eq]
  by_cases h600 : 600 < s.length
  · rw [if_pos (by omega)]
    refine WC_p rfl rfl awake23 ?_
    simp only [go_sem, reduceIte, Nat.reduceEqDiff, Nat.reduceAdd, Nat.reduceLeDiff, Nat.reduceLT]
  · rw [if_neg (by omega)]
    obtain ⟨v, hv, hr⟩ := scan_ok s (by omega)
    refine WC_p rfl rfl hv ?_
    rcases hr with ⟨h16, _⟩ | ⟨_, ⟨e, he, rfl⟩ | ⟨l, q, hl, hq, rfl⟩⟩
    · omega
    · have c1 : decide ((3 : Int) = 0) = false := rfl
      simp only [go_sem, reduceIte, Nat.reduceEqDiff, Nat.reduceAdd, Nat.reduceLeDiff, Nat.reduceLT, ext2.1, ext2.2.1, ext2.2.2, c1, Bool.not_false]
    · subst hq
      have hlen : q.l.length ≤ 1000000 := by have := scan_len _ hl; omega
      obtain ⟨a2, hst⟩ := scan_steps s.length sk_len hl
      have hge := steps_ge hst
      have hin := steps_le hst
      have hsk := @sk_len s false
      have hsn : skN s = s.length - (sk false s).length := rfl
      simp only [go_sem, reduceIte, Nat.reduceEqDiff, Nat.reduceAdd, Nat.reduceLeDiff, Nat.reduceLT, ext2.1, ext2.2.1, ext2.2.2, decide_true, Bool.not_true, conv_bytes]
      refine ⟨by omega, ?_⟩
      refine WP_scan rfl 35 q.l.length (fun _ => True) (fun j T H n => 21 ≤ n ∧ ∃ w, H 20 = .sarr 5 1 0 false false (w.map bR) ∧ Rw s q.l w) rfl ⟨by omega, s, rfl, Cf.refl s, fun _ _ _ => rfl⟩ ?_ ?_
      · rintro j T' H' n' hlt hf hi ⟨hn', w, hw, hrw⟩ _
        have g1 : T' 1 = .s (.int .u64 bits) := hf 1 rfl
        have g8 : T' 8 = .hsl 20 0 0 s.length := hf 8 rfl
        have g33 : T' 33 = .s (q.sv Tok.row) := hf 33 rfl
        have g34 : T' 34 = .i64 q.l.length := hf 34 rfl
        clear hf
        have hmem := getD_mem (l := q.l) default hlt
        simp only [go_sem, reduceIte, Nat.reduceEqDiff, Nat.reduceAdd, Nat.reduceLeDiff, Nat.reduceLT, g33, g34, hi, Int.ofNat_lt, hlt, decide_true, ia_tok, load_eptr, Tok.row, Int.toNat_natCast]
        generalize q.l.getD j default = t at hmem ⊢
        obtain ⟨p, hp⟩ : ∃ p : Nat, t.at_ = p := ⟨t.at_.toNat, by have := hge t hmem; omega⟩
        by_cases hwt : wordT t
        · have hend := hin t hmem hwt
          have ec : (if (!decide (t.k = 0)) = true then !decide (t.k = 1) else false) = false := by
            rcases hwt with h | h <;> simp [h]
          have ec' : (!decide (t.k = 0) && !decide (t.k = 1)) = false := by
            rcases hwt with h | h <;> simp [h]
          simp only [go_sem, reduceIte, Nat.reduceEqDiff, Nat.reduceAdd, Nat.reduceLeDiff, Nat.reduceLT, ec, ec', hp]
          generalize hHb : Ob.set _ _ _ = H0
          have hend' : p + t.t.length ≤ s.length := by omega
          have hB : H0 (n' + 1 + 2) = .box 28 ([SV.int .i64 t.k, SV.int .i64 p, SV.str t.t].map .s) := by rw [← hHb, set_at, if_pos rfl]
          have hW : H0 20 = .sarr 5 1 0 false false (w.map bR) := by rw [← hHb, set_at, if_neg (by omega)]; exact hw
          have ew := wrap_add (i := p) (j := t.t.length) (by omega)
          refine WP_loop rfl (fun k T H n => 21 ≤ n ∧ ∃ i : Nat, i + k = p + t.t.length ∧ p ≤ i ∧ T 11 = .i64 i ∧ H (n' + 1 + 2) = .box 28 ([SV.int .i64 t.k, SV.int .i64 p, SV.str t.t].map .s) ∧ ∃ w, H 20 = .sarr 5 1 0 false false (w.map bR) ∧ Rw s q.l w) (k0 := t.t.length) ⟨by omega, p, by omega, Nat.le_refl _, rfl, hB, w, hW, hrw⟩ ?_
          rintro k2 T2 H2 n2 hf2 ⟨hn2, i, hik, hpi, h11, hb2, w2, hw2, hrw2⟩
          have k1 : T2 1 = .s (.int .u64 bits) := (hf2 1 rfl).trans g1
          have k8 : T2 8 = .hsl 20 0 0 s.length := (hf2 8 rfl).trans g8
          have k10 : T2 10 = .ptr (n' + 1 + 2) 0 := hf2 10 rfl
          have k35 : T2 35 = .i64 j := (hf2 35 rfl).trans hi
          clear hf2
          have hwl2 := hrw2.1.len
          by_cases hil : i < p + t.t.length
          · have his : i < s.length := by omega
            have hiw : i < w2.length := by omega
            have hinw : inW q.l i := ⟨t, hmem, hwt, by omega, by omega⟩
            have ws := wrap_suc (j := i) (by omega)
            simp only [go_sem, reduceIte, Nat.reduceEqDiff, Nat.reduceAdd, Nat.reduceLeDiff, Nat.reduceLT, k1, k8, k10, h11, hb2, ew, Int.ofNat_lt, hil, decide_true, ia_hsl, hw2, iaH_sarr, load_aptr, loadH_map, bR, List.length_map, hwl2, his, Int.toNat_natCast, Nat.zero_add, true_and, and_true, u8_default, Nat.le_refl]
            refine WC_p rfl rfl (refLetter_ok _) ?_
            cases hb : isLet (w2.getD i 0) with
            | false =>
              simp only [go_sem, reduceIte, Nat.reduceEqDiff, Nat.reduceAdd, Nat.reduceLeDiff, Nat.reduceLT, h11, ws]
              exact ⟨k2 - 1, by omega, i + 1, by omega, by omega, rfl, hb2, w2, hw2, hrw2⟩
            | true =>
              have h64 : ((64 : Int) ≠ 0) = True := by simp
              have h2 : ((2 : Int) ≠ 0) = True := by simp
              have hm : 0 ≤ (i : Int).tmod 64 := by rw [Int.tmod_eq_emod_of_nonneg (by omega)]; omega
              simp only [go_sem, reduceIte, Nat.reduceEqDiff, Nat.reduceAdd, Nat.reduceLeDiff, Nat.reduceLT, k1, k8, h11, ws, h64, h2, bi_shrG, hm, ia_hsl, hw2, iaH_sarr, load_aptr, loadH_map, bR, List.length_map, hwl2, his, Int.toNat_natCast, Nat.zero_add, true_and, and_true, u8_default, Nat.le_refl, bi_xor, flip_val, Int.ofNat_lt]
              split
              · rw [store_aptr, hw2, storeA_map, WX_gd]
                refine ⟨⟨rfl, hiw⟩, ?_⟩
                rw [set_map]
                simp only [go_sem, reduceIte, Nat.reduceEqDiff, Nat.reduceAdd, Nat.reduceLeDiff, Nat.reduceLT, h11, ws]
                refine ⟨k2 - 1, by omega, i + 1, by omega, by omega, rfl, ?_, w2.set i (flip (w2.getD i 0)), rfl, hrw2.step his hinw hb⟩
                rw [if_neg (by omega)]; exact hb2
              · exact ⟨k2 - 1, by omega, i + 1, by omega, by omega, rfl, hb2, w2, rfl, hrw2⟩
          · have hil' : ¬ (i : Int) < ((p + t.t.length : Nat) : Int) := by omega
            simp only [go_sem, reduceIte, Nat.reduceEqDiff, Nat.reduceAdd, Nat.reduceLeDiff, Nat.reduceLT, k10, h11, hb2, ew, hil', decide_false, k35, wrap_suc (show j < 9223372036854775807 by omega)]
            exact ⟨by omega, w2, hw2, hrw2⟩
        · have ec' : (!decide (t.k = 0) && !decide (t.k = 1)) = true := by
            unfold wordT at hwt
            rw [not_or] at hwt
            simp [hwt.1, hwt.2]
          simp only [go_sem, reduceIte, Nat.reduceEqDiff, Nat.reduceAdd, Nat.reduceLeDiff, Nat.reduceLT, ec', hi, wrap_suc (show j < 9223372036854775807 by omega)]
          exact ⟨by omega, w, by rw [if_neg (by omega)]; exact hw, hrw⟩
      · rintro T' H' n' hf hi ⟨hn', w, hw, hrw⟩ _
        have g5 : T' 5 = .s (q.sv Tok.row) := hf 5 rfl
        have g8 : T' 8 = .hsl 20 0 0 s.length := hf 8 rfl
        have g34 : T' 34 = .i64 q.l.length := hf 34 rfl
        clear hf
        have hwl := hrw.1.len
        simp only [go_sem, reduceIte, Nat.reduceEqDiff, Nat.reduceAdd, Nat.reduceLeDiff, Nat.reduceLT, g5, g8, g34, hi, Int.lt_irrefl, decide_false, conv_hsl hw (show s.length = w.length by omega)]
        obtain ⟨v2, hv2, hr2⟩ := scan_ok w (by omega)
        refine WC_p rfl rfl hv2 ?_
        have hcl := case_law hl hrw.1 hrw.2
        rcases hr2 with ⟨h16, _⟩ | ⟨_, ⟨e2, he2, rfl⟩ | ⟨l2, q2, hl2, hq2, rfl⟩⟩
        · omega
        · rw [hcl] at he2; cases he2
        · rw [hcl] at hl2
          injection hl2 with hl2
          simp only [go_sem, reduceIte, Nat.reduceEqDiff, Nat.reduceAdd, Nat.reduceLeDiff, Nat.reduceLT, g5, ext2.1, ext2.2.1, ext2.2.2, decide_true]
          refine WC_p rfl rfl (same_ok q q2 hlen (by rw [hq2, hl2])) ?_
          simp only [go_sem, reduceIte, Nat.reduceEqDiff, Nat.reduceAdd, Nat.reduceLeDiff, Nat.reduceLT]
          rfl
end Go.Vm
