/- Chapter 24: SqlformatEquals' walk. -/
import Derived.Test.YtaepmmmcipolbaaGreatDoorSfMb
set_option linter.unusedVariables false
set_option linter.unusedSimpArgs false
set_option maxRecDepth 100000
namespace Go.Vm
open Go

theorem run_tru {f : FuncId} {args : List PV} (h : ∃ v H1 n1, runL EE f args (Ob.of []) 0 = some (.ret v, H1, n1) ∧ v = .bool true) : ∃ H' n', runL EE f args (Ob.of []) 0 = some (.ret (.bool true), H', n') := by
  obtain ⟨v, H1, n1, h1, rfl⟩ := h
  exact ⟨H1, n1, h1⟩
theorem obs_same {H : Ob} {i : Nat} {o : HObj} : (H.set i o) i = o := by unfold Ob.set; rw [if_pos rfl]
theorem obs_ne {H : Ob} {i j : Nat} {o : HObj} (h : j ≠ i) : (H.set i o) j = H j := by unfold Ob.set; rw [if_neg h]
def row_qu : List SV := [.int .i64 0, .nils, .bool false, .nils, .nils, .nils, .nils, .nils, .nils, .nils]
def row_wh : List SV := [.int .i64 0, .int .i64 0, .int .i64 0, .str [], .str [], .str [], .int .i64 0, .int .i64 0, .nils]
section
variable {Q : Type} [Inhabited Q] {f : Q → List SV} (hf : ∀ x, (f x).length = 10) {q : Q → Q → Bool} {w : Q → Prop} {nq : Q → Int → Int}
  (hE : ∀ a b, w a → calL EE 24 [.st (f a), .st (f b)] [] = some (.ret (.bool (q a b)), []))
  (hS : ∀ a b, w a → calL EE 32 [.st (f a), .st (f b)] [] = some (.ret (.bool (q a b)), []))
  (hN : ∀ a b, w a → calL EE 56 [.st (f a), .i64 b] [] = some (.ret (.i64 (nq a b)), []))
  (hr : ∀ a, q a a = true) (hs : ∀ a b, q a b = q b a)
include hf hE hS hN hr hs
set_option maxHeartbeats 4000000 in
theorem equals_lawX (a b : StP Q) (la : wfStP w a) (lb : wfStP w b) : ∃ H' n', runL EE 8 [.st (StP.row f a), .st (StP.row f b)] (Ob.of []) 0 = some (.ret (.bool true), H', n') := by
  refine run_tru (fn_run f8 (by simp) ?_)
  have fa := stmt_few hf hN a 120 la
  have fb := stmt_few hf hN b 120 lb
  have s1 := stmt_eq hf hE a b la
  have s2 := stmt_same hf hS a b la
  have s3 := stmt_eq hf hE b a lb
  have s4 := stmt_eq hf hE a a la
  rw [eqStP_symm hs b a] at s3
  rw [eqStP_refl hr] at s4
  generalize eqStP q a b = e at s1 s2 s3
  have hb : (e == e) = true := by cases e <;> rfl
  generalize decide (0 ≤ nodStP nq a 120) = x at fa
  generalize decide (0 ≤ nodStP nq b 120) = y at fb
  unfold c8
  unfold StP.row at *
  simp only [go_sem, reduceIte, Nat.reduceEqDiff, Nat.reduceAdd, Nat.reduceLeDiff, Nat.reduceLT]
  refine WC_p rfl (by rw [pure_st]; rfl) fa ?_
  cases x with
  | false =>
    simp only [go_sem, reduceIte, Nat.reduceEqDiff, Nat.reduceAdd, Nat.reduceLeDiff, Nat.reduceLT, Bool.not_false]
    refine WC_p rfl rfl awake24 ?_
    simp only [go_sem, reduceIte, Nat.reduceEqDiff, Nat.reduceAdd, Nat.reduceLeDiff, Nat.reduceLT]
  | true =>
    simp only [go_sem, reduceIte, Nat.reduceEqDiff, Nat.reduceAdd, Nat.reduceLeDiff, Nat.reduceLT, Bool.not_true]
    refine WC_p rfl (by rw [pure_st]; rfl) fb ?_
    cases y with
    | false =>
      simp only [go_sem, reduceIte, Nat.reduceEqDiff, Nat.reduceAdd, Nat.reduceLeDiff, Nat.reduceLT, Bool.not_false, Bool.not_true]
      refine WC_p rfl rfl awake24 ?_
      simp only [go_sem, reduceIte, Nat.reduceEqDiff, Nat.reduceAdd, Nat.reduceLeDiff, Nat.reduceLT]
    | true =>
      simp only [go_sem, reduceIte, Nat.reduceEqDiff, Nat.reduceAdd, Nat.reduceLeDiff, Nat.reduceLT, Bool.not_true]
      refine WC_p rfl (by rw [pure_st, pure_st]; rfl) s1 ?_
      simp only [go_sem, reduceIte, Nat.reduceEqDiff, Nat.reduceAdd, Nat.reduceLeDiff, Nat.reduceLT]
      refine WC_p rfl (by rw [pure_st, pure_st]; rfl) s2 ?_
      simp only [go_sem, reduceIte, Nat.reduceEqDiff, Nat.reduceAdd, Nat.reduceLeDiff, Nat.reduceLT, hb, Bool.not_true]
      refine WC_p rfl (by rw [pure_st, pure_st]; rfl) s3 ?_
      simp only [go_sem, reduceIte, Nat.reduceEqDiff, Nat.reduceAdd, Nat.reduceLeDiff, Nat.reduceLT, hb, Bool.not_true]
      refine WC_p rfl (by rw [pure_st, pure_st]; rfl) s1 ?_
      simp only [go_sem, reduceIte, Nat.reduceEqDiff, Nat.reduceAdd, Nat.reduceLeDiff, Nat.reduceLT, hb, Bool.not_true]
      refine WC_p rfl (by rw [pure_st, pure_st]; rfl) s4 ?_
      simp only [go_sem, reduceIte, Nat.reduceEqDiff, Nat.reduceAdd, Nat.reduceLeDiff, Nat.reduceLT, hb, Bool.not_true]
      --LOOPS
      refine WP_scan rfl 47 a.qu.l.length (fun _ => True) (fun _ _ H n => 2 ≤ n ∧ H 0 = .box 57 ((StP.row f a).map .s) ∧ H 1 = .box 57 ((StP.row f b).map .s)) rfl ⟨by decide, rfl, rfl⟩ ?_ ?_
      · rintro j T' H' n' hlt hf' hi ⟨hn, hA, hB⟩ _
        have h2 : T' 2 = .ptr 0 0 := (hf' 2 rfl).trans rfl
        have h3 : T' 3 = .ptr 1 0 := (hf' 3 rfl).trans rfl
        have hsl : T' 45 = .s (a.qu.sv f) := hf' 45 rfl
        have hln : T' 46 = .i64 a.qu.l.length := hf' 46 rfl
        clear hf'
        have hji : (j : Int) < a.qu.l.length := by omega
        have hj0 : (0 : Int) ≤ j := by omega
        have hwj := wrap_suc (j := j) (by have := la.lqu; have : mxL = 9223372036854775807 := rfl; omega)
        have hld := fun HH => (q_ags hf).load (l := a.qu.l) (j := j) (H := HH) hlt
        have hwx := la.qu _ (getD_mem (l := a.qu.l) default hlt)
        generalize a.qu.l.getD j default = X at hld hwx
        have lx := (q_ags hf).len X
        simp only [go_sem, reduceIte, Nat.reduceEqDiff, Nat.reduceAdd, Nat.reduceLeDiff, Nat.reduceLT, StP.row, (q_ags hf).ia, and_self, decide_true, Int.toNat_natCast, h2, h3, hsl, hln, hi, hA, hB, hji, hj0, hld]
        refine ⟨lx, ?_⟩
        rw [setCells_all (by rw [lx]; rfl)]
        generalize hid : n' + 1 + 2 = id
        refine WP_scan rfl 54 b.qu.l.length (fun _ => True) (fun _ _ H n => id < n ∧ H id = .box 38 ((f X).map .s) ∧ H 0 = .box 57 ((StP.row f a).map .s) ∧ H 1 = .box 57 ((StP.row f b).map .s)) rfl ⟨by omega, obs_same, (obs_ne (by omega)).trans hA, (obs_ne (by omega)).trans hB⟩ ?_ ?_
        · rintro k T2 H2 n2 klt kf ki ⟨kn, kX, kA, kB⟩ _
          have g6 : T2 6 = .ptr id 0 := kf 6 rfl
          have gsl : T2 52 = .s (b.qu.sv f) := kf 52 rfl
          have gln : T2 53 = .i64 b.qu.l.length := kf 53 rfl
          clear kf
          have hki : (k : Int) < b.qu.l.length := by omega
          have hk0 : (0 : Int) ≤ k := by omega
          have hwk := wrap_suc (j := k) (by have := lb.lqu; have : mxL = 9223372036854775807 := rfl; omega)
          have kld := fun HH => (q_ags hf).load (l := b.qu.l) (j := k) (H := HH) klt
          generalize b.qu.l.getD k default = Y at kld
          have ly := (q_ags hf).len Y
          have e1 := hE X Y hwx
          have e2 := hS X Y hwx
          have e3 := hE X X hwx
          rw [hr] at e3
          generalize q X Y = r at e1 e2
          have hr2 : (r == r) = true := by cases r <;> rfl
          have tx : List.take 10 (f X) = f X := List.take_of_length_le (by omega)
          have ty : List.take 10 (f Y) = f Y := List.take_of_length_le (by omega)
          simp only [go_sem, reduceIte, Nat.reduceEqDiff, Nat.reduceAdd, Nat.reduceLeDiff, Nat.reduceLT, StP.row, (q_ags hf).ia, and_self, decide_true, Int.toNat_natCast, g6, gsl, gln, ki, kX, hki, hk0, kld]
          refine ⟨ly, ?_⟩
          have hsc := setCells_all (show (row_qu).length = (f Y).length by rw [ly]; rfl)
          unfold row_qu at hsc
          have hne : (id = n2 + 1 + 2) = False := eq_false (by omega)
          simp only [go_sem, reduceIte, Nat.reduceEqDiff, Nat.reduceAdd, Nat.reduceLeDiff, Nat.reduceLT, StP.row, (q_ags hf).ia, and_self, decide_true, Int.toNat_natCast, g6, gsl, gln, ki, kX, hki, hk0, kld, hsc, hne, lx, ly, tx, ty, hr2, Nat.le_refl, Bool.not_true]
          refine WC_p rfl (by rw [pure_st, pure_st]; rfl) e1 ?_
          simp only [go_sem, reduceIte, Nat.reduceEqDiff, Nat.reduceAdd, Nat.reduceLeDiff, Nat.reduceLT, StP.row, (q_ags hf).ia, and_self, decide_true, Int.toNat_natCast, g6, gsl, gln, ki, kX, hki, hk0, kld, hsc, hne, lx, ly, tx, ty, hr2, Nat.le_refl, Bool.not_true]
          refine WC_p rfl (by rw [pure_st, pure_st]; rfl) e2 ?_
          simp only [go_sem, reduceIte, Nat.reduceEqDiff, Nat.reduceAdd, Nat.reduceLeDiff, Nat.reduceLT, StP.row, (q_ags hf).ia, and_self, decide_true, Int.toNat_natCast, g6, gsl, gln, ki, kX, hki, hk0, kld, hsc, hne, lx, ly, tx, ty, hr2, Nat.le_refl, Bool.not_true]
          refine WC_p rfl (by rw [pure_st, pure_st]; rfl) e3 ?_
          simp only [go_sem, reduceIte, Nat.reduceEqDiff, Nat.reduceAdd, Nat.reduceLeDiff, Nat.reduceLT, StP.row, (q_ags hf).ia, and_self, decide_true, Int.toNat_natCast, g6, gsl, gln, ki, kX, hki, hk0, kld, hsc, hne, lx, ly, tx, ty, hr2, Nat.le_refl, Bool.not_true, hwk]
          exact ⟨by omega, kA, kB⟩
        · rintro T2 H2 n2 kf ki ⟨kn, kX, kA, kB⟩ _
          have g0 : T2 47 = .i64 j := (kf 47 rfl).trans hi
          have gln : T2 53 = .i64 b.qu.l.length := kf 53 rfl
          clear kf
          simp only [go_sem, reduceIte, Nat.reduceEqDiff, Nat.reduceAdd, Nat.reduceLeDiff, Nat.reduceLT, StP.row, (q_ags hf).ia, and_self, decide_true, Int.toNat_natCast, g0, gln, ki, Int.lt_irrefl, decide_false, hwj]
          exact ⟨kA, kB⟩
      · rintro T' H' n' hf' hi ⟨hn, hA, hB⟩ _
        have h2 : T' 2 = .ptr 0 0 := (hf' 2 rfl).trans rfl
        have h3 : T' 3 = .ptr 1 0 := (hf' 3 rfl).trans rfl
        have hln : T' 46 = .i64 a.qu.l.length := hf' 46 rfl
        clear hf'
        simp only [go_sem, reduceIte, Nat.reduceEqDiff, Nat.reduceAdd, Nat.reduceLeDiff, Nat.reduceLT, StP.row, (q_ags hf).ia, and_self, decide_true, Int.toNat_natCast, h2, h3, hln, hi, hA, hB, Int.lt_irrefl, decide_false]
        refine WP_scan rfl 76 a.wh.l.length (fun _ => True) (fun _ _ H n => 2 ≤ n ∧ H 0 = .box 57 ((StP.row f a).map .s) ∧ H 1 = .box 57 ((StP.row f b).map .s)) rfl ⟨by omega, hA, hB⟩ ?_ ?_
        · rintro j T' H' n' hlt hf' hi ⟨hn, hA, hB⟩ _
          have h2 : T' 2 = .ptr 0 0 := (hf' 2 rfl).trans h2
          have h3 : T' 3 = .ptr 1 0 := (hf' 3 rfl).trans h3
          have hsl : T' 74 = .s (a.wh.sv Tr.row) := hf' 74 rfl
          have hln : T' 75 = .i64 a.wh.l.length := hf' 75 rfl
          clear hf'
          have hji : (j : Int) < a.wh.l.length := by omega
          have hj0 : (0 : Int) ≤ j := by omega
          have hwj := wrap_suc (j := j) (by have := la.lwh; have : mxL = 9223372036854775807 := rfl; omega)
          have hld := fun HH => tr_ags.load (l := a.wh.l) (j := j) (H := HH) hlt
          have hwx := la.wh _ (getD_mem (l := a.wh.l) default hlt)
          generalize a.wh.l.getD j default = X at hld hwx
          have lx := tr_ags.len X
          simp only [go_sem, reduceIte, Nat.reduceEqDiff, Nat.reduceAdd, Nat.reduceLeDiff, Nat.reduceLT, StP.row, tr_ags.ia, and_self, decide_true, Int.toNat_natCast, h2, h3, hsl, hln, hi, hA, hB, hji, hj0, hld]
          refine ⟨lx, ?_⟩
          rw [setCells_all (by rw [lx]; rfl)]
          generalize hid : n' + 1 + 2 = id
          refine WP_scan rfl 83 b.wh.l.length (fun _ => True) (fun _ _ H n => id < n ∧ H id = .box 26 ((Tr.row X).map .s) ∧ H 0 = .box 57 ((StP.row f a).map .s) ∧ H 1 = .box 57 ((StP.row f b).map .s)) rfl ⟨by omega, obs_same, (obs_ne (by omega)).trans hA, (obs_ne (by omega)).trans hB⟩ ?_ ?_
          · rintro k T2 H2 n2 klt kf ki ⟨kn, kX, kA, kB⟩ _
            have g6 : T2 10 = .ptr id 0 := kf 10 rfl
            have gsl : T2 81 = .s (b.wh.sv Tr.row) := kf 81 rfl
            have gln : T2 82 = .i64 b.wh.l.length := kf 82 rfl
            clear kf
            have hki : (k : Int) < b.wh.l.length := by omega
            have hk0 : (0 : Int) ≤ k := by omega
            have hwk := wrap_suc (j := k) (by have := lb.lwh; have : mxL = 9223372036854775807 := rfl; omega)
            have kld := fun HH => tr_ags.load (l := b.wh.l) (j := k) (H := HH) klt
            generalize b.wh.l.getD k default = Y at kld
            have ly := tr_ags.len Y
            have e1 := (fun x y hw => equal_ok _ x y (Nat.le_refl _) hw) X Y hwx
            have e2 := (fun x y hw => same_ok _ x y (Nat.le_refl _) hw) X Y hwx
            have e3 := (fun x y hw => equal_ok _ x y (Nat.le_refl _) hw) X X hwx
            rw [eqT_self] at e3
            generalize eqT X Y = r at e1 e2
            have hr2 : (r == r) = true := by cases r <;> rfl
            have tx : List.take 9 (Tr.row X) = Tr.row X := List.take_of_length_le (by omega)
            have ty : List.take 9 (Tr.row Y) = Tr.row Y := List.take_of_length_le (by omega)
            simp only [go_sem, reduceIte, Nat.reduceEqDiff, Nat.reduceAdd, Nat.reduceLeDiff, Nat.reduceLT, StP.row, tr_ags.ia, and_self, decide_true, Int.toNat_natCast, g6, gsl, gln, ki, kX, hki, hk0, kld]
            refine ⟨ly, ?_⟩
            have hsc := setCells_all (show (row_wh).length = (Tr.row Y).length by rw [ly]; rfl)
            unfold row_wh at hsc
            have hne : (id = n2 + 1 + 2) = False := eq_false (by omega)
            simp only [go_sem, reduceIte, Nat.reduceEqDiff, Nat.reduceAdd, Nat.reduceLeDiff, Nat.reduceLT, StP.row, tr_ags.ia, and_self, decide_true, Int.toNat_natCast, g6, gsl, gln, ki, kX, hki, hk0, kld, hsc, hne, lx, ly, tx, ty, hr2, Nat.le_refl, Bool.not_true]
            refine WC_p rfl (by rw [pure_st, pure_st]; rfl) e1 ?_
            simp only [go_sem, reduceIte, Nat.reduceEqDiff, Nat.reduceAdd, Nat.reduceLeDiff, Nat.reduceLT, StP.row, tr_ags.ia, and_self, decide_true, Int.toNat_natCast, g6, gsl, gln, ki, kX, hki, hk0, kld, hsc, hne, lx, ly, tx, ty, hr2, Nat.le_refl, Bool.not_true]
            refine WC_p rfl (by rw [pure_st, pure_st]; rfl) e2 ?_
            simp only [go_sem, reduceIte, Nat.reduceEqDiff, Nat.reduceAdd, Nat.reduceLeDiff, Nat.reduceLT, StP.row, tr_ags.ia, and_self, decide_true, Int.toNat_natCast, g6, gsl, gln, ki, kX, hki, hk0, kld, hsc, hne, lx, ly, tx, ty, hr2, Nat.le_refl, Bool.not_true]
            refine WC_p rfl (by rw [pure_st, pure_st]; rfl) e3 ?_
            simp only [go_sem, reduceIte, Nat.reduceEqDiff, Nat.reduceAdd, Nat.reduceLeDiff, Nat.reduceLT, StP.row, tr_ags.ia, and_self, decide_true, Int.toNat_natCast, g6, gsl, gln, ki, kX, hki, hk0, kld, hsc, hne, lx, ly, tx, ty, hr2, Nat.le_refl, Bool.not_true, hwk]
            exact ⟨by omega, kA, kB⟩
          · rintro T2 H2 n2 kf ki ⟨kn, kX, kA, kB⟩ _
            have g0 : T2 76 = .i64 j := (kf 76 rfl).trans hi
            have gln : T2 82 = .i64 b.wh.l.length := kf 82 rfl
            clear kf
            simp only [go_sem, reduceIte, Nat.reduceEqDiff, Nat.reduceAdd, Nat.reduceLeDiff, Nat.reduceLT, StP.row, tr_ags.ia, and_self, decide_true, Int.toNat_natCast, g0, gln, ki, Int.lt_irrefl, decide_false, hwj]
            exact ⟨kA, kB⟩
        · rintro T' H' n' hf' hi ⟨hn, hA, hB⟩ _
          have h2 : T' 2 = .ptr 0 0 := (hf' 2 rfl).trans h2
          have h3 : T' 3 = .ptr 1 0 := (hf' 3 rfl).trans h3
          have hln : T' 75 = .i64 a.wh.l.length := hf' 75 rfl
          clear hf'
          simp only [go_sem, reduceIte, Nat.reduceEqDiff, Nat.reduceAdd, Nat.reduceLeDiff, Nat.reduceLT, StP.row, tr_ags.ia, and_self, decide_true, Int.toNat_natCast, h2, h3, hln, hi, hA, hB, Int.lt_irrefl, decide_false]
          refine WC_p rfl rfl awake24 ?_
          simp only [go_sem, reduceIte, Nat.reduceEqDiff, Nat.reduceAdd, Nat.reduceLeDiff, Nat.reduceLT]
end
theorem equals_law (m : Nat) (a : StP (QN m)) (la : wfStP (QN.wf m) a) (b : StP (QN m)) (lb : wfStP (QN.wf m) b) : ∃ H' n', runL EE 8 [.st (StP.row (QN.row m) a), .st (StP.row (QN.row m) b)] (Ob.of []) 0 = some (.ret (.bool true), H', n') :=
  equals_lawX (qn_len m) (equalQ_ok m) (sameQ_ok m) (queries_ok m) (qn_refl m) (qn_symm m) a b la lb
end Go.Vm
