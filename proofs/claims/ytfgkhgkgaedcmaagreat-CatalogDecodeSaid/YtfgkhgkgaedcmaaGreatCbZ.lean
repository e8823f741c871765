/- The machine over chapter 19's program: its code is served, strings.Join, the example of the chapter; what the arguments are. -/
import Derived.Test.YtfgkhgkgaedcmaaGreatCbW2
import Derived.Test.YtfgkhgkgaedcmaaGreatCbS
set_option linter.unusedVariables false
set_option linter.unusedSimpArgs false
set_option maxRecDepth 100000
namespace Go.Vm
open Go.Proofs Go.RowKit
theorem codes19 : codesB EE useL = true := by kernel_rfl
theorem codesOk19 : CodesOk EE := codes_of codes19 (fun f hf => by simpa [EE] using hf)
theorem awake19 : calL EE 5 [] [] = some (.ret (.bool true), []) := cal_run (n := 200) (by kernel_rfl)
theorem ext19 (W : World) : ExtOk EE W (fixOf W) := by
  intro f g args v hf hg
  have hff : f = 45 ∧ g = joinX := by
    simp only [EE, extL] at hf
    split at hf
    · rename_i h
      injection hf with hf
      exact ⟨h, hf.symm⟩
    · cases hf
  obtain ⟨rfl, rfl⟩ := hff
  refine ⟨⟨Tryz.f45, Tryz.func45, by kernel_rfl, by kernel_rfl⟩, fun C w vals hR _ ha => ?_⟩
  exact join_ok Tryz.strings_Join_none Tryz.strings_Join hg hR ha
theorem gok19 (W : World) : GOk EE (fixOf W) := fun g p h => by cases h
def typesL : List TypeId := [3, 4, 5, 9, 28, 22, 23, 25, 41, 44, 45, 47, 53, 40, 51]
theorem okT19 : okT Tryz.prog typesL = true := by kernel_rfl
theorem sz19 : Tryz.prog.cellsOf 3 = 1 ∧ Tryz.prog.cellsOf 4 = 1 ∧ Tryz.prog.cellsOf 9 = 1 ∧ Tryz.prog.cellsOf 22 = 1 ∧ Tryz.prog.cellsOf 23 = 1 ∧ Tryz.prog.cellsOf 25 = 3 ∧ Tryz.prog.cellsOf 41 = 1 ∧ Tryz.prog.cellsOf 44 = 1 ∧ Tryz.prog.cellsOf 45 = 1 ∧ Tryz.prog.cellsOf 47 = 5 ∧ Tryz.prog.cellsOf 53 = 4 ∧ Tryz.prog.cellsOf 40 = 2 ∧ Tryz.prog.cellsOf 51 = 3 :=
  ⟨by kernel_rfl, by kernel_rfl, by kernel_rfl, by kernel_rfl, by kernel_rfl, by kernel_rfl, by kernel_rfl, by kernel_rfl, by kernel_rfl, by kernel_rfl, by kernel_rfl, by kernel_rfl, by kernel_rfl⟩
theorem ty_col (m : Nat) (c : List SV) (h : typed Tryz.prog m 40 c) : ∃ x : Col, c = x.row := by
  obtain ⟨z3, z4, z9, z22, z23, z25, z30, z31, z32, z34, z39, z63, z65⟩ := sz19
  obtain ⟨hl, n, hf⟩ := ty_struct Tryz.underlying40 h
  rw [z63] at hl
  simp only [List.forall_mem_cons, z9, z3] at hf
  match c, hl with
  | [a, b], _ =>
    obtain ⟨h1, h2, _⟩ := hf
    obtain ⟨l, e1, _⟩ := ty_str Tryz.underlying9 h1
    obtain ⟨i, e2, _⟩ := ty_int Tryz.underlying3 h2
    simp at e1 e2
    subst e1; subst e2
    exact ⟨⟨l, i⟩, rfl⟩
theorem ty_int3 (m : Nat) (c : List SV) (h : typed Tryz.prog m 3 c) : ∃ x : Int, c = intRow x := by
  obtain ⟨i, rfl, _⟩ := ty_int Tryz.underlying3 h
  exact ⟨i, rfl⟩
theorem ty_str9 (m : Nat) (c : List SV) (h : typed Tryz.prog m 9 c) : ∃ x : List UInt8, c = strRow x := by
  obtain ⟨i, rfl, _⟩ := ty_str Tryz.underlying9 h
  exact ⟨i, rfl⟩
theorem ty_idx (m : Nat) (c : List SV) (h : typed Tryz.prog m 51 c) : ∃ x : Idx, c = x.row := by
  obtain ⟨z3, z4, z9, z22, z23, z25, z30, z31, z32, z34, z39, z63, z65⟩ := sz19
  obtain ⟨hl, n, hf⟩ := ty_struct Tryz.underlying51 h
  rw [z65] at hl
  simp only [List.forall_mem_cons, z9, z3, z31] at hf
  match c, hl with
  | [a, b, d], _ =>
    obtain ⟨h1, h2, h3, _⟩ := hf
    obtain ⟨i, e1, _⟩ := ty_int Tryz.underlying3 h1
    obtain ⟨l, e2, _⟩ := ty_str Tryz.underlying9 h2
    obtain ⟨s, e3⟩ := ty_slice Tryz.underlying44 ty_int3 h3
    simp at e1 e2 e3
    subst e1; subst e2; subst e3
    exact ⟨⟨i, l, s⟩, rfl⟩
theorem ty_tab (m : Nat) (c : List SV) (h : typed Tryz.prog m 47 c) : ∃ x : Tab, c = x.row := by
  obtain ⟨z3, z4, z9, z22, z23, z25, z30, z31, z32, z34, z39, z63, z65⟩ := sz19
  obtain ⟨hl, n, hf⟩ := ty_struct Tryz.underlying47 h
  rw [z34] at hl
  simp only [List.forall_mem_cons, z9, z3, z30, z31, z32] at hf
  match c, hl with
  | [a, b, d, e, g], _ =>
    obtain ⟨h1, h2, h3, h4, h5, _⟩ := hf
    obtain ⟨i, e1, _⟩ := ty_int Tryz.underlying3 h1
    obtain ⟨l, e2, _⟩ := ty_str Tryz.underlying9 h2
    obtain ⟨s, e3⟩ := ty_slice Tryz.underlying41 ty_col h3
    obtain ⟨s2, e4⟩ := ty_slice Tryz.underlying44 ty_int3 h4
    obtain ⟨s3, e5⟩ := ty_slice Tryz.underlying45 ty_idx h5
    simp at e1 e2 e3 e4 e5
    subst e1; subst e2; subst e3; subst e4; subst e5
    exact ⟨⟨i, l, s, s2, s3⟩, rfl⟩
theorem ty_viw (m : Nat) (c : List SV) (h : typed Tryz.prog m 53 c) : ∃ x : Viw, c = x.row := by
  obtain ⟨z3, z4, z9, z22, z23, z25, z30, z31, z32, z34, z39, z63, z65⟩ := sz19
  obtain ⟨hl, n, hf⟩ := ty_struct Tryz.underlying53 h
  rw [z39] at hl
  simp only [List.forall_mem_cons, z9, z3, z4] at hf
  match c, hl with
  | [a, b, d, e], _ =>
    obtain ⟨h1, h2, h3, h4, _⟩ := hf
    obtain ⟨i, e1, _⟩ := ty_int Tryz.underlying3 h1
    obtain ⟨l, e2, _⟩ := ty_str Tryz.underlying9 h2
    obtain ⟨l2, e3, _⟩ := ty_str Tryz.underlying9 h3
    obtain ⟨q, e4⟩ := ty_bool Tryz.underlying4 h4
    simp at e1 e2 e3 e4
    subst e1; subst e2; subst e3; subst e4
    exact ⟨⟨i, l, l2, q⟩, rfl⟩
theorem ty_cat (m : Nat) (c : List SV) (h : typed Tryz.prog m 25 c) : ∃ x : Cat, c = x.row := by
  obtain ⟨z3, z4, z9, z22, z23, z25, z30, z31, z32, z34, z39, z63, z65⟩ := sz19
  obtain ⟨hl, n, hf⟩ := ty_struct Tryz.underlying25 h
  rw [z25] at hl
  simp only [List.forall_mem_cons, z3, z22, z23] at hf
  match c, hl with
  | [a, b, d], _ =>
    obtain ⟨h1, h2, h3, _⟩ := hf
    obtain ⟨s, e1⟩ := ty_slice Tryz.underlying22 ty_tab h1
    obtain ⟨s2, e2⟩ := ty_slice Tryz.underlying23 ty_viw h2
    obtain ⟨i, e3, _⟩ := ty_int Tryz.underlying3 h3
    simp at e1 e2 e3
    subst e1; subst e2; subst e3
    exact ⟨⟨s, s2, i⟩, rfl⟩
theorem arg_cat {p : PV} (h : argT Tryz.prog 25 p) : ∃ c : Cat, p = .st c.row := by
  obtain ⟨n, xs, h1, rfl⟩ := arg_struct Tryz.underlying25 h
  obtain ⟨c, rfl⟩ := ty_cat n xs h1
  exact ⟨c, rfl⟩
theorem arg_str {p : PV} (h : argT Tryz.prog 9 p) : ∃ s : List UInt8, p = .str s := by
  obtain ⟨n, x, h1, rfl⟩ := arg_one (fun fs e => by rw [Tryz.underlying9] at e; cases e) h
  obtain ⟨l, e, _⟩ := ty_str Tryz.underlying9 h1
  simp at e
  exact ⟨l, by rw [e]⟩
theorem ty_u8 (m : Nat) (c : List SV) (h : typed Tryz.prog m 5 c) : ∃ x : UInt8, c = bRow x := by
  obtain ⟨i, rfl, h0, h1⟩ := ty_int Tryz.underlying5 h
  have h0 : (0 : Int) ≤ i := h0
  have h1 : i ≤ 255 := h1
  refine ⟨UInt8.ofNat i.toNat, ?_⟩
  have : ((UInt8.ofNat i.toNat).toNat : Int) = i := by
    simp
    omega
  unfold bRow
  rw [this]
theorem arg_bytes {p : PV} (h : argT Tryz.prog 28 p) : ∃ s : Slc UInt8, p = .s (s.sv bRow) := by
  obtain ⟨n, x, h1, rfl⟩ := arg_one (fun fs e => by rw [Tryz.underlying28] at e; cases e) h
  obtain ⟨s, e⟩ := ty_slice Tryz.underlying28 ty_u8 h1
  simp at e
  exact ⟨s, by rw [e]⟩
end Go.Vm
