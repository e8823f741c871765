/- Chapter 24: statements as arguments. -/
import Derived.Test.YtaepmmmcipolbaaGreatDoorSfYq
import Derived.Test.YtaepmmmcipolbaaGreatDoorSfMs
set_option linter.unusedVariables false
set_option linter.unusedSimpArgs false
set_option maxRecDepth 100000
namespace Go.Vm
open Go.Proofs Go.Proofs.YtaepmmmcipolbaaGreatDoor Go.RowKit Go.Shelf

theorem z_stmt : Tryz.prog.cellsOf 57 = 10 := by kernel_rfl
theorem z_col : Tryz.prog.cellsOf 104 = 2 := by kernel_rfl
theorem z_stg : Tryz.prog.cellsOf 101 = 10 := by kernel_rfl
theorem z_t1 : Tryz.prog.cellsOf 52 = 1 := by kernel_rfl
theorem z_t2 : Tryz.prog.cellsOf 54 = 1 := by kernel_rfl
theorem z_t3 : Tryz.prog.cellsOf 55 = 1 := by kernel_rfl
theorem col_of {n : Nat} {xs : List SV} (h : typed Tryz.prog n 104 xs) : ∃ x : Col, xs = x.row ∧ True := by
  cases n with
  | zero => exact h.elim
  | succ n =>
    obtain ⟨hl, hf⟩ := ty_fields Tryz.underlying104 h
    rw [z_col] at hl
    simp only [List.forall_mem_cons, z_int, z_str] at hf
    match xs, hl with
    | [a0, a1], _ =>
      obtain ⟨h1, h2, _⟩ := hf
      obtain ⟨nm, e1, _⟩ := ty_str Tryz.underlying9 h1
      obtain ⟨k, e2, _⟩ := ty_int Tryz.underlying3 h2
      simp only [List.drop_succ_cons, List.drop_zero, List.take_succ_cons, List.take_zero] at e1 e2
      refine ⟨⟨nm, k⟩, ?_, trivial⟩
      injection e1 with e1; subst e1
      injection e2 with e2; subst e2
      rfl
theorem stg_of {n : Nat} {xs : List SV} (h : typed Tryz.prog n 101 xs) : ∃ x : Stg, xs = x.row ∧ wf x.e := by
  cases n with
  | zero => exact h.elim
  | succ n =>
    obtain ⟨hl, hf⟩ := ty_fields Tryz.underlying101 h
    rw [z_stg] at hl
    simp only [List.forall_mem_cons, z_expr, z_str] at hf
    match xs, hl with
    | [a0, a1, a2, a3, a4, a5, a6, a7, a8, a9], _ =>
      obtain ⟨h1, h2, _⟩ := hf
      obtain ⟨nm, e1, _⟩ := ty_str Tryz.underlying9 h1
      obtain ⟨t, e2, hw⟩ := expr_of n _ h2
      simp only [List.drop_succ_cons, List.drop_zero, List.take_succ_cons, List.take_zero] at e1 e2
      refine ⟨⟨nm, t⟩, ?_, hw⟩
      injection e1 with e1; subst e1
      show _ = SV.str nm :: t.row
      rw [← e2]
theorem stmt_of {n : Nat} {xs : List SV} (h : typed Tryz.prog n 57 xs) (m : Nat) (hm : n ≤ m) : ∃ s : StP (QN m), xs = StP.row (QN.row m) s ∧ wfStP (QN.wf m) s := by
  cases n with
  | zero => exact h.elim
  | succ n =>
    obtain ⟨hl, hf⟩ := ty_fields Tryz.underlying57 h
    rw [z_stmt] at hl
    simp only [List.forall_mem_cons, z_int, z_str, z_s1, z_s2, z_s3, z_t1, z_t2, z_t3] at hf
    match xs, hl with
    | [a0, a1, a2, a3, a4, a5, a6, a7, a8, a9], _ =>
      obtain ⟨h0, h1, h2, h3, h4, h5, h6, h7, h8, h9, _⟩ := hf
      obtain ⟨k, e0, _⟩ := ty_int Tryz.underlying3 h0
      obtain ⟨nm, e1, _⟩ := ty_str Tryz.underlying9 h1
      obtain ⟨tb, e2, _⟩ := ty_str Tryz.underlying9 h2
      obtain ⟨co, e3, l3, _⟩ := slc_of (f := Col.row) (W := fun _ => True) Tryz.underlying52 h3 fun j c _ hc => col_of hc
      obtain ⟨ke, e4, l4, _⟩ := slc_of (f := txRow) (W := fun _ => True) Tryz.underlying53 h4 fun k c _ hc => txt_of hc
      obtain ⟨ns, e5, l5, _⟩ := slc_of (f := txRow) (W := fun _ => True) Tryz.underlying53 h5 fun k c _ hc => txt_of hc
      obtain ⟨ro, e6, l6, w6⟩ := slc_of (f := rwRow) (W := fun x : Slc Tr => x.l.length ≤ mxL ∧ ∀ t ∈ x.l, wf t) Tryz.underlying54 h6 fun j c _ hc => by
        obtain ⟨s, e, l, w⟩ := slc_of (f := Tr.row) (W := wf) Tryz.underlying24 hc fun j c _ hc => expr_of j c hc
        exact ⟨s, e, l, w⟩
      obtain ⟨se, e7, l7, w7⟩ := slc_of (f := Stg.row) (W := fun x => wf x.e) Tryz.underlying55 h7 fun j c _ hc => stg_of hc
      obtain ⟨wh, e8, l8, w8⟩ := slc_of (f := Tr.row) (W := wf) Tryz.underlying24 h8 fun j c _ hc => expr_of j c hc
      obtain ⟨qu, e9, l9, w9⟩ := slc_of (f := QN.row m) (W := QN.wf m) Tryz.underlying36 h9 fun j c hj hc => query_of j c hc m (by omega)
      simp only [List.drop_succ_cons, List.drop_zero, List.take_succ_cons, List.take_zero] at e0 e1 e2 e3 e4 e5 e6 e7 e8 e9
      refine ⟨⟨k, nm, tb, co, ke, ns, ro, se, wh, qu⟩, ?_, ⟨l3, l4, l5, l6, w6, l7, w7, l8, w8, l9, w9⟩⟩
      injection e0 with e0; subst e0
      injection e1 with e1; subst e1
      injection e2 with e2; subst e2
      injection e3 with e3; subst e3
      injection e4 with e4; subst e4
      injection e5 with e5; subst e5
      injection e6 with e6; subst e6
      injection e7 with e7; subst e7
      injection e8 with e8; subst e8
      injection e9 with e9; subst e9
      rfl
def typesS : List TypeId := typesQ ++ [57, 104, 52, 54, 101, 55]
theorem oktypesS : okT Tryz.prog typesS = true := by kernel_rfl
theorem arg_stmt {p : PV} (h : argT Tryz.prog 57 p) : ∃ n, ∀ m, n ≤ m → ∃ s : StP (QN m), p = .st (StP.row (QN.row m) s) ∧ wfStP (QN.wf m) s := by
  obtain ⟨n, xs, h1, rfl⟩ := arg_struct Tryz.underlying57 h
  refine ⟨n, fun m hm => ?_⟩
  obtain ⟨s, rfl, hw⟩ := stmt_of h1 m hm
  exact ⟨s, rfl, hw⟩
theorem stand_57 : Tryz.prog.wantsStandIn 57 = false := by kernel_rfl
end Go.Vm
