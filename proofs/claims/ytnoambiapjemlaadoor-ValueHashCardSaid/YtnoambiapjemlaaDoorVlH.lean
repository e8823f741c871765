/- The law ValueHash, run by the machine. -/
import Derived.Test.YtnoambiapjemlaaDoorVlF
set_option linter.unusedVariables false
set_option linter.unusedSimpArgs false
set_option maxRecDepth 100000
namespace Go.Vm

def xorI (k : IntKind) (a b : Int) : Int := k.wrap ((BitVec.ofInt k.bits a ^^^ BitVec.ofInt k.bits b).toNat)
theorem bi_xor {k : IntKind} {a b : Int} : binM .xor .num (.s (.int k a)) (.s (.int k b)) = some (.s (.int k (xorI k a b))) := by simp [binM, binInt, xorI]
def shr8 (n : Int) : Int := n.fdiv (2 ^ (min (Int.toNat 8) IntKind.u64.bits))
theorem bi_shr8 {k' : IntKind} {a : Int} : binM .shr .num (.s (.int .u64 a)) (.s (.int k' 8)) = some (.s (.int .u64 (shr8 a))) := by simp [binM, binInt, shr8]
def mixV (h b : Int) : Int := IntKind.u64.wrap (xorI .u64 h (IntKind.u64.wrap b) * 1099511628211)
def wN (n : Int) : Nat → Int
  | 0 => n
  | j + 1 => shr8 (wN n j)
def wH (h n : Int) : Nat → Int
  | 0 => h
  | j + 1 => mixV (wH h n j) (IntKind.u8.wrap (wN n j))
def hstep (h : Int) (v : Val) : Int := v.text.foldl (fun h b => mixV h b.toNat) (wH (wH (mixV h (IntKind.u8.wrap v.kind)) (IntKind.u64.wrap v.n) 8) (IntKind.u64.wrap v.text.length) 8)
def hashV (l : List Val) : Int := l.foldl hstep 14695981039346656037
theorem foldl_next {α β : Type} {f : β → α → β} {l : List α} {a : β} {j : Nat} (d : α) (h : j < l.length) : (l.take (j + 1)).foldl f a = f ((l.take j).foldl f a) (l.getD j d) := by
  rw [take_step d h, List.foldl_append]
  rfl
theorem t39 (h b : Int) : calL EE 39 [.s (.int .u64 h), .s (.int .u8 b)] [] = some (.ret (.s (.int .u64 (mixV h b))), []) := by
  refine fn_ok f39 (by simp) ?_
  unfold c39
  simp only [go_sem, reduceIte, Nat.reduceEqDiff, Nat.reduceAdd, Nat.reduceLeDiff, Nat.reduceLT, bi_xor]
  rfl
theorem t40 (h n : Int) : calL EE 40 [.s (.int .u64 h), .s (.int .u64 n)] [] = some (.ret (.s (.int .u64 (wH h n 8))), []) := by
  refine fn_ok f40 (by simp) ?_
  unfold c40
  simp only [go_sem, reduceIte, Nat.reduceEqDiff, Nat.reduceAdd, Nat.reduceLeDiff, Nat.reduceLT]
  refine WP_scan rfl 5 8 (fun _ => True) (fun j T H _ => T 0 = .s (.int .u64 (wH h n j)) ∧ T 1 = .s (.int .u64 (wN n j))) rfl ⟨rfl, rfl⟩ ?_ ?_
  · rintro j T' H' n' hlt hf hi ⟨h0, h1⟩ _
    clear hf
    have hd : decide ((j : Int) < 8) = true := by rw [decide_eq_true_eq]; omega
    simp only [go_sem, reduceIte, Nat.reduceEqDiff, Nat.reduceAdd, Nat.reduceLeDiff, Nat.reduceLT, h0, h1, hi, hd]
    refine WC_p rfl rfl (t39 _ _) ?_
    simp only [go_sem, reduceIte, Nat.reduceEqDiff, Nat.reduceAdd, Nat.reduceLeDiff, Nat.reduceLT, h0, h1, hi, bi_shr8, wrap_suc (show j < 9223372036854775807 by omega)]
    exact ⟨rfl, rfl⟩
  · rintro T' H' n' hf hi ⟨h0, h1⟩ _
    have hd : decide (((8 : Nat) : Int) < 8) = false := rfl
    simp only [go_sem, reduceIte, Nat.reduceEqDiff, Nat.reduceAdd, Nat.reduceLeDiff, Nat.reduceLT, h0, h1, hi, hd]
theorem t18 (s : Slc Val) (hs : s.l.length ≤ 1000000) (ht : ∀ j, j < s.l.length → (s.l.getD j default).text.length ≤ 1000000) : calL EE 18 [.s (s.sv Val.row)] [] = some (.ret (.s (.int .u64 (hashV s.l))), []) := by
  refine fn_ok f18 (by simp) ?_
  unfold c18
  simp only [go_sem, reduceIte, Nat.reduceEqDiff, Nat.reduceAdd, Nat.reduceLeDiff, Nat.reduceLT]
  refine WP_scan rfl 4 s.l.length (fun _ => True) (fun j T H _ => T 3 = .s (.int .u64 (hashV (s.l.take j)))) rfl rfl ?_ ?_
  · rintro j T' H' n' hlt hf hi h3 _
    have h0 : T' 0 = .s (s.sv Val.row) := hf 0 rfl
    clear hf
    have hl := ht j hlt
    simp only [go_sem, reduceIte, Nat.reduceEqDiff, Nat.reduceAdd, Nat.reduceLeDiff, Nat.reduceLT, h0, h3, hi, Int.ofNat_lt, hlt, decide_true, ia_val, Val.row]
    refine WC_p rfl rfl (t39 _ _) ?_
    simp only [go_sem, reduceIte, Nat.reduceEqDiff, Nat.reduceAdd, Nat.reduceLeDiff, Nat.reduceLT, h0, h3, hi, Int.ofNat_lt, hlt, decide_true, ia_val, Val.row]
    refine WC_p rfl rfl (t40 _ _) ?_
    simp only [go_sem, reduceIte, Nat.reduceEqDiff, Nat.reduceAdd, Nat.reduceLeDiff, Nat.reduceLT, h0, h3, hi, Int.ofNat_lt, hlt, decide_true, ia_val, Val.row]
    refine WC_p rfl rfl (t40 _ _) ?_
    simp only [go_sem, reduceIte, Nat.reduceEqDiff, Nat.reduceAdd, Nat.reduceLeDiff, Nat.reduceLT, h0, h3, hi, Int.ofNat_lt, hlt, decide_true, ia_val, Val.row]
    refine WP_scan rfl 5 (s.l.getD j default).text.length (fun _ => True) (fun k T H _ => T 3 = .s (.int .u64 (((s.l.getD j default).text.take k).foldl (fun h b => mixV h b.toNat) (wH (wH (mixV (hashV (s.l.take j)) (IntKind.u8.wrap (s.l.getD j default).kind)) (IntKind.u64.wrap (s.l.getD j default).n) 8) (IntKind.u64.wrap (s.l.getD j default).text.length) 8)))) rfl rfl ?_ ?_
    · rintro k T2 H2 n2 hlt2 hf2 hi2 g3 _
      have g0 : T2 0 = .s (s.sv Val.row) := (hf2 0 rfl).trans h0
      have g4 : T2 4 = .i64 j := (hf2 4 rfl).trans hi
      clear hf2
      simp only [go_sem, reduceIte, Nat.reduceEqDiff, Nat.reduceAdd, Nat.reduceLeDiff, Nat.reduceLT, g0, g3, g4, hi2, Int.ofNat_lt, hlt, hlt2, decide_true, ia_val, Val.row]
      refine WC_p rfl rfl (t39 _ _) ?_
      simp only [go_sem, reduceIte, Nat.reduceEqDiff, Nat.reduceAdd, Nat.reduceLeDiff, Nat.reduceLT, g0, g3, g4, hi2, Int.ofNat_lt, hlt, hlt2, decide_true, ia_val, Val.row, wrap_suc (show k < 9223372036854775807 by omega)]
      rw [foldl_next 0 hlt2]
    · rintro T2 H2 n2 hf2 hi2 g3 _
      have g0 : T2 0 = .s (s.sv Val.row) := (hf2 0 rfl).trans h0
      have g4 : T2 4 = .i64 j := (hf2 4 rfl).trans hi
      clear hf2
      rw [List.take_length] at g3
      simp only [go_sem, reduceIte, Nat.reduceEqDiff, Nat.reduceAdd, Nat.reduceLeDiff, Nat.reduceLT, g0, g3, g4, hi2, Int.ofNat_lt, hlt, decide_true, ia_val, Val.row, Int.lt_irrefl, decide_false, wrap_suc (show j < 9223372036854775807 by omega)]
      unfold hashV
      rw [foldl_next default hlt]
      rfl
  · rintro T' H' n' hf hi h3 _
    have h0 : T' 0 = .s (s.sv Val.row) := hf 0 rfl
    clear hf
    rw [List.take_length] at h3
    simp only [go_sem, reduceIte, Nat.reduceEqDiff, Nat.reduceAdd, Nat.reduceLeDiff, Nat.reduceLT, h0, h3, hi, Int.lt_irrefl, decide_false]
/-! ### the closures -/
theorem WV_f {E : Env} {dr : Bool} {g : FuncId} {a b args : List PV} {H : Ob} {n : Nat} {d T r Q} (h : WCs E dr g (a ++ args ++ b) H n d T r Q) : WVs E dr (.func g a b) args H n d T r Q := by
  obtain ⟨v, H1, n1, h1, h2⟩ := h
  exact ⟨(g, a, b), rfl, v, H1, n1, h1, h2⟩
theorem loadB_one {t : TypeId} {p : PV} : loadB false 1 0 (.box t [p]) = some p := rfl
theorem storeB_one {t : TypeId} {p q : PV} {H : Ob} {id : Nat} (h : cellOk p = true) (hc : p.cells = [p]) : storeB 1 0 p H id (.box t [q]) = some (H.set id (.box t [p])) := by
  rw [storeB_box, hc, if_pos ⟨rfl, by simp, by simp [h]⟩]
  rfl
def hb (h : Int) : HObj := .box 33 ([SV.int .u64 h].map .s)
theorem r37 {H : Ob} {n ih : Nat} {h b : Int} (hH : H ih = hb h) : ∃ v H1 n1, runL EE 37 [.s (.int .u8 b), .ptr ih 0] H n = some (.ret v, H1, n1) ∧ (H1 = H.set ih (hb (mixV h b)) ∧ n ≤ n1) := by
  refine fn_run (R := fun v H1 n1 => H1 = H.set ih (hb (mixV h b)) ∧ n ≤ n1) f37 (by simp) ?_
  unfold c37
  unfold hb at hH
  simp only [go_sem, reduceIte, Nat.reduceEqDiff, Nat.reduceAdd, Nat.reduceLeDiff, Nat.reduceLT, hH, bi_xor]
  exact ⟨rfl, by omega⟩
def fm (ih : Nat) : PV := .func 37 [] [.ptr ih 0]
theorem WC_mix {H : Ob} {n ih : Nat} {h b : Int} {d T r Q} (hH : H ih = hb h) (hk : ∀ v n1, n ≤ n1 → WS EE false r (putT T d v) (H.set ih (hb (mixV h b))) n1 Q) : WVs EE false (fm ih) [.s (.int .u8 b)] H n d T r Q :=
  WV_f (WC_run rfl (r37 (n := n) (b := b) hH) (fun v H1 n1 ⟨e, h⟩ => by rw [e]; exact hk v n1 h))
theorem set_same {H : Ob} {id : Nat} {o : HObj} (h : H id = o) : H.set id o = H := by
  funext j
  rw [set_at]
  split
  · rename_i e; rw [e, h]
  · rfl
theorem r38 {H : Ob} {n ih im : Nat} {h x : Int} (hne : im ≠ ih) (hH : H ih = hb h) (hM : H im = .box 59 [fm ih]) : ∃ v H1 n1, runL EE 38 [.s (.int .u64 x), .ptr im 0] H n = some (.ret v, H1, n1) ∧ (H1 = H.set ih (hb (wH h x 8)) ∧ n ≤ n1) := by
  refine fn_run (R := fun v H1 n1 => H1 = H.set ih (hb (wH h x 8)) ∧ n ≤ n1) f38 (by simp) ?_
  unfold c38
  simp only [go_sem, reduceIte, Nat.reduceEqDiff, Nat.reduceAdd, Nat.reduceLeDiff, Nat.reduceLT]
  refine WP_scan rfl 3 8 (fun _ => True) (fun j T H' n' => T 0 = .s (.int .u64 (wN x j)) ∧ H' = H.set ih (hb (wH h x j)) ∧ n ≤ n') rfl ⟨rfl, (set_same hH).symm, by omega⟩ ?_ ?_
  · rintro j T' H' n' hlt hf hi ⟨h0, rfl, hn⟩ _
    have h1 : T' 1 = .ptr im 0 := hf 1 rfl
    clear hf
    have hd : decide ((j : Int) < 8) = true := by rw [decide_eq_true_eq]; omega
    simp only [go_sem, reduceIte, Nat.reduceEqDiff, Nat.reduceAdd, Nat.reduceLeDiff, Nat.reduceLT, h0, h1, hi, hd, hne, hM, loadB_one]
    refine WC_mix (h := wH h x j) (by rw [set_at, if_pos rfl]) ?_
    intro v n1 hn1
    simp only [go_sem, reduceIte, Nat.reduceEqDiff, Nat.reduceAdd, Nat.reduceLeDiff, Nat.reduceLT, h0, h1, hi, bi_shr8, wrap_suc (show j < 9223372036854775807 by omega)]
    exact ⟨rfl, rfl, by omega⟩
  · rintro T' H' n' hf hi ⟨h0, rfl, hn⟩ _
    have hd : decide (((8 : Nat) : Int) < 8) = false := rfl
    simp only [go_sem, reduceIte, Nat.reduceEqDiff, Nat.reduceAdd, Nat.reduceLeDiff, Nat.reduceLT, h0, hi, hd]
    omega
theorem WC_word {H : Ob} {n ih im : Nat} {h x : Int} {d T r Q} (hne : im ≠ ih) (hH : H ih = hb h) (hM : H im = .box 59 [fm ih]) (hk : ∀ v n1, n ≤ n1 → WS EE false r (putT T d v) (H.set ih (hb (wH h x 8))) n1 Q) : WVs EE false (.func 38 [] [.ptr im 0]) [.s (.int .u64 x)] H n d T r Q :=
  WV_f (WC_run rfl (r38 (n := n) (x := x) hne hH hM) (fun v H1 n1 ⟨e, h⟩ => by rw [e]; exact hk v n1 h))
theorem t17 (s : Slc Val) (hs : s.l.length ≤ 1000000) (ht : ∀ j, j < s.l.length → (s.l.getD j default).text.length ≤ 1000000) : calL EE 17 [.s (s.sv Val.row)] [] = some (.ret (.s (.int .u64 (hashV s.l))), []) := by
  refine fn_ok f17 (by simp) ?_
  unfold c17
  simp only [go_sem, reduceIte, Nat.reduceEqDiff, Nat.reduceAdd, Nat.reduceLeDiff, Nat.reduceLT]
  refine ⟨_, storeB_one rfl rfl, ?_⟩
  refine WP_scan rfl 13 s.l.length (fun _ => True) (fun j T' H' n' => H' 1 = hb (hashV (s.l.take j)) ∧ H' 4 = .box 59 [fm 1] ∧ 11 ≤ n') rfl ⟨rfl, rfl, by omega⟩ ?_ ?_
  · rintro j T' H' n' hlt hf hi ⟨hH, hM, hn⟩ _
    have h4 : T' 4 = .ptr 4 0 := hf 4 rfl
    have h5 : T' 5 = .func 38 [] [.ptr 4 0] := hf 5 rfl
    have h11 : T' 11 = .s (s.sv Val.row) := hf 11 rfl
    have h12 : T' 12 = .i64 s.l.length := hf 12 rfl
    clear hf
    have hl := ht j hlt
    have x1 : ¬ (1 = n' + 3) := by omega
    have x4 : ¬ (4 = n' + 3) := by omega
    have y1 : ¬ (n' + 3 = 1) := by omega
    have hlt' : (j : Int) < s.l.length := by omega
    simp only [go_sem, reduceIte, Nat.reduceEqDiff, Nat.reduceAdd, Nat.reduceLeDiff, Nat.reduceLT, h4, h5, h11, h12, hi, Int.ofNat_lt, hlt, decide_true, ia_val, Val.row, x1, x4, hM, loadB_one]
    refine WC_mix (h := hashV (s.l.take j)) (by simp only [set_at, x1, if_false, hH]) ?_
    intro v n1 hn1
    simp only [go_sem, reduceIte, Nat.reduceEqDiff, Nat.reduceAdd, Nat.reduceLeDiff, Nat.reduceLT, h4, h5, h11, h12, hi, y1, Val.row]
    refine WC_word (ih := 1) (h := mixV (hashV (s.l.take j)) (IntKind.u8.wrap (s.l.getD j default).kind)) (by omega) (by simp only [set_at, if_true]) (by simp only [set_at, x4, if_false, hM]; rfl) ?_
    intro v n2 hn2
    simp only [go_sem, reduceIte, Nat.reduceEqDiff, Nat.reduceAdd, Nat.reduceLeDiff, Nat.reduceLT, h4, h5, h11, h12, hi, y1, Val.row]
    refine WC_word (ih := 1) (h := wH (mixV (hashV (s.l.take j)) (IntKind.u8.wrap (s.l.getD j default).kind)) (IntKind.u64.wrap (s.l.getD j default).n) 8) (by omega) (by simp only [set_at, if_true]) (by simp only [set_at, x4, if_false, hM]; rfl) ?_
    intro v n3 hn3
    simp only [go_sem, reduceIte, Nat.reduceEqDiff, Nat.reduceAdd, Nat.reduceLeDiff, Nat.reduceLT, h4, h5, h11, h12, hi, y1, Val.row]
    refine WP_scan rfl 36 (s.l.getD j default).text.length (fun _ => True) (fun k T2 H2 n2 => H2 1 = hb (((s.l.getD j default).text.take k).foldl (fun h b => mixV h b.toNat) (wH (wH (mixV (hashV (s.l.take j)) (IntKind.u8.wrap (s.l.getD j default).kind)) (IntKind.u64.wrap (s.l.getD j default).n) 8) (IntKind.u64.wrap (s.l.getD j default).text.length) 8)) ∧
      H2 4 = .box 59 [fm 1] ∧ H2 (n' + 1 + 2) = .box 23 ((s.l.getD j default).row.map .s) ∧ 11 ≤ n2) rfl ⟨?_, ?_, ?_, by omega⟩ ?_ ?_
    · simp only [set_at, if_true]
      rfl
    · simp only [set_at, x4, show ¬ (4 = 1) by omega, if_false, hM]
    · simp only [set_at, y1, if_false, if_true]
      rfl
    · rintro k T2 H2 n4 hlt2 hf2 hi2 ⟨k1, k2, k3, k4⟩ _
      have g4 : T2 4 = .ptr 4 0 := (hf2 4 rfl).trans h4
      have g7 : T2 7 = .ptr (n' + 1 + 2) 0 := hf2 7 rfl
      have g35 : T2 35 = .i64 (s.l.getD j default).text.length := hf2 35 rfl
      clear hf2
      simp only [Nat.add_assoc, Nat.reduceAdd] at k3 g7
      simp only [go_sem, reduceIte, Nat.reduceEqDiff, Nat.reduceAdd, Nat.reduceLeDiff, Nat.reduceLT, g4, g7, g35, hi2, k2, k3, loadB_one, Int.ofNat_lt, hlt2, decide_true, Val.row]
      refine WC_mix k1 ?_
      intro v n5 hn5
      have z1 : ¬ (4 = 1) := by omega
      simp only [go_sem, reduceIte, Nat.reduceEqDiff, Nat.reduceAdd, Nat.reduceLeDiff, Nat.reduceLT, hi2, k2, k3, y1, wrap_suc (show k < 9223372036854775807 by omega), Val.row]
      refine ⟨?_, ?_⟩
      · rw [foldl_next 0 hlt2]
      · omega
    · rintro T2 H2 n4 hf2 hi2 ⟨k1, k2, k3, k4⟩ _
      have g13 : T2 13 = .i64 j := (hf2 13 rfl).trans hi
      have g35 : T2 35 = .i64 (s.l.getD j default).text.length := hf2 35 rfl
      clear hf2
      rw [List.take_length] at k1
      simp only [go_sem, reduceIte, Nat.reduceEqDiff, Nat.reduceAdd, Nat.reduceLeDiff, Nat.reduceLT, g13, g35, hi2, Int.lt_irrefl, decide_false, wrap_suc (show j < 9223372036854775807 by omega)]
      refine ⟨?_, k2, by omega⟩
      rw [k1]
      unfold hashV
      rw [foldl_next default hlt]
      rfl
  · rintro T' H' n' hf hi ⟨hH, hM, hn⟩ _
    have h3 : T' 3 = .ptr 1 0 := hf 3 rfl
    have h12 : T' 12 = .i64 s.l.length := hf 12 rfl
    clear hf
    rw [List.take_length] at hH
    unfold hb at hH
    simp only [go_sem, reduceIte, Nat.reduceEqDiff, Nat.reduceAdd, Nat.reduceLeDiff, Nat.reduceLT, h3, h12, hi, hH, Int.lt_irrefl, decide_false]
theorem t5 (s : Slc Val) (hs : s.l.length ≤ 9223372036854775807) : ∃ H' n', runL EE 5 [.s (s.sv Val.row)] (Ob.of []) 0 = some (.ret (.bool true), H', n') := by
  refine run_true ?_
  refine fn_run (R := fun v _ _ => v = .bool true) f5 (by simp) ?_
  unfold c5
  simp only [go_sem, reduceIte, Nat.reduceEqDiff, Nat.reduceAdd, Nat.reduceLeDiff, Nat.reduceLT]
  refine WC_p rfl rfl awake01 ?_
  simp only [go_sem, reduceIte, Nat.reduceEqDiff, Nat.reduceAdd, Nat.reduceLeDiff, Nat.reduceLT]
  obtain ⟨v, hv, ok, rfl, hsh⟩ := t16 s 20 hs
  refine WC_p rfl rfl hv ?_
  cases ok with
  | false => simp only [go_sem, reduceIte, Nat.reduceEqDiff, Nat.reduceAdd, Nat.reduceLeDiff, Nat.reduceLT]
  | true =>
    obtain ⟨h1, h2⟩ := hsh rfl
    have ht : ∀ j, j < s.l.length → (s.l.getD j default).text.length ≤ 1000000 := fun j hj => by have := h1 j hj; omega
    simp only [go_sem, reduceIte, Nat.reduceEqDiff, Nat.reduceAdd, Nat.reduceLeDiff, Nat.reduceLT]
    refine WC_p rfl rfl (t17 s (by omega) ht) ?_
    simp only [go_sem, reduceIte, Nat.reduceEqDiff, Nat.reduceAdd, Nat.reduceLeDiff, Nat.reduceLT]
    refine WC_p rfl rfl (t18 s (by omega) ht) ?_
    simp only [go_sem, reduceIte, Nat.reduceEqDiff, Nat.reduceAdd, Nat.reduceLeDiff, Nat.reduceLT, decide_true]
end Go.Vm
