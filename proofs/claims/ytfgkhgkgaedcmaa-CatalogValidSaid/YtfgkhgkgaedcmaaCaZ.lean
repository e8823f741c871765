/- The machine over chapter 19's program: its code is served, strings.Join, the example of the chapter; what the arguments are. -/
import Derived.Test.YtfgkhgkgaedcmaaCaK
import Derived.Test.YtfgkhgkgaedcmaaCaS
set_option linter.unusedVariables false
set_option linter.unusedSimpArgs false
set_option maxRecDepth 100000
namespace Go.Vm
open Go.Proofs Go.RowKit
theorem codes19 : codesB EE useL = true := by kernel_rfl
theorem codesOk19 : CodesOk EE := codes_of codes19 (fun f hf => by simpa [EE] using hf)
theorem awake19 : calL EE 9 [] [] = some (.ret (.bool true), []) := cal_run (n := 200) (by kernel_rfl)
theorem ext19 (W : World) : ExtOk EE W (fixOf W) := by
  intro f g args v hf hg
  have hff : f = 63 ∧ g = joinX := by
    simp only [EE] at hf
    split at hf
    · rename_i h
      injection hf with hf
      exact ⟨h, hf.symm⟩
    · cases hf
  obtain ⟨rfl, rfl⟩ := hff
  refine ⟨⟨Try.f63, Try.func63, by kernel_rfl, by kernel_rfl⟩, fun C w vals hR _ ha => ?_⟩
  exact join_ok Try.strings_Join_none Try.strings_Join hg hR ha
theorem gok19 (W : World) : GOk EE (fixOf W) := fun g p h => by cases h
def typesL : List TypeId := [3, 4, 5, 9, 22, 23, 25, 30, 31, 32, 34, 39, 43, 47, 63, 65]
theorem okT19 : okT Try.prog typesL = true := by kernel_rfl
theorem sz19 : Try.prog.cellsOf 3 = 1 ∧ Try.prog.cellsOf 4 = 1 ∧ Try.prog.cellsOf 9 = 1 ∧ Try.prog.cellsOf 22 = 1 ∧ Try.prog.cellsOf 23 = 1 ∧ Try.prog.cellsOf 25 = 3 ∧ Try.prog.cellsOf 30 = 1 ∧ Try.prog.cellsOf 31 = 1 ∧ Try.prog.cellsOf 32 = 1 ∧ Try.prog.cellsOf 34 = 5 ∧ Try.prog.cellsOf 39 = 4 ∧ Try.prog.cellsOf 63 = 2 ∧ Try.prog.cellsOf 65 = 3 :=
  ⟨by kernel_rfl, by kernel_rfl, by kernel_rfl, by kernel_rfl, by kernel_rfl, by kernel_rfl, by kernel_rfl, by kernel_rfl, by kernel_rfl, by kernel_rfl, by kernel_rfl, by kernel_rfl, by kernel_rfl⟩
theorem ty_col (m : Nat) (c : List SV) (h : typed Try.prog m 63 c) : ∃ x : Col, c = x.row := by
  obtain ⟨z3, z4, z9, z22, z23, z25, z30, z31, z32, z34, z39, z63, z65⟩ := sz19
  obtain ⟨hl, n, hf⟩ := ty_struct Try.underlying63 h
  rw [z63] at hl
  simp only [List.forall_mem_cons, z9, z3] at hf
  match c, hl with
  | [a, b], _ =>
    obtain ⟨h1, h2, _⟩ := hf
    obtain ⟨l, e1, _⟩ := ty_str Try.underlying9 h1
    obtain ⟨i, e2, _⟩ := ty_int Try.underlying3 h2
    simp at e1 e2
    subst e1; subst e2
    exact ⟨⟨l, i⟩, rfl⟩
theorem ty_int3 (m : Nat) (c : List SV) (h : typed Try.prog m 3 c) : ∃ x : Int, c = intRow x := by
  obtain ⟨i, rfl, _⟩ := ty_int Try.underlying3 h
  exact ⟨i, rfl⟩
theorem ty_str9 (m : Nat) (c : List SV) (h : typed Try.prog m 9 c) : ∃ x : List UInt8, c = strRow x := by
  obtain ⟨i, rfl, _⟩ := ty_str Try.underlying9 h
  exact ⟨i, rfl⟩
theorem ty_idx (m : Nat) (c : List SV) (h : typed Try.prog m 65 c) : ∃ x : Idx, c = x.row := by
  obtain ⟨z3, z4, z9, z22, z23, z25, z30, z31, z32, z34, z39, z63, z65⟩ := sz19
  obtain ⟨hl, n, hf⟩ := ty_struct Try.underlying65 h
  rw [z65] at hl
  simp only [List.forall_mem_cons, z9, z3, z31] at hf
  match c, hl with
  | [a, b, d], _ =>
    obtain ⟨h1, h2, h3, _⟩ := hf
    obtain ⟨i, e1, _⟩ := ty_int Try.underlying3 h1
    obtain ⟨l, e2, _⟩ := ty_str Try.underlying9 h2
    obtain ⟨s, e3⟩ := ty_slice Try.underlying31 ty_int3 h3
    simp at e1 e2 e3
    subst e1; subst e2; subst e3
    exact ⟨⟨i, l, s⟩, rfl⟩
theorem ty_tab (m : Nat) (c : List SV) (h : typed Try.prog m 34 c) : ∃ x : Tab, c = x.row := by
  obtain ⟨z3, z4, z9, z22, z23, z25, z30, z31, z32, z34, z39, z63, z65⟩ := sz19
  obtain ⟨hl, n, hf⟩ := ty_struct Try.underlying34 h
  rw [z34] at hl
  simp only [List.forall_mem_cons, z9, z3, z30, z31, z32] at hf
  match c, hl with
  | [a, b, d, e, g], _ =>
    obtain ⟨h1, h2, h3, h4, h5, _⟩ := hf
    obtain ⟨i, e1, _⟩ := ty_int Try.underlying3 h1
    obtain ⟨l, e2, _⟩ := ty_str Try.underlying9 h2
    obtain ⟨s, e3⟩ := ty_slice Try.underlying30 ty_col h3
    obtain ⟨s2, e4⟩ := ty_slice Try.underlying31 ty_int3 h4
    obtain ⟨s3, e5⟩ := ty_slice Try.underlying32 ty_idx h5
    simp at e1 e2 e3 e4 e5
    subst e1; subst e2; subst e3; subst e4; subst e5
    exact ⟨⟨i, l, s, s2, s3⟩, rfl⟩
theorem ty_viw (m : Nat) (c : List SV) (h : typed Try.prog m 39 c) : ∃ x : Viw, c = x.row := by
  obtain ⟨z3, z4, z9, z22, z23, z25, z30, z31, z32, z34, z39, z63, z65⟩ := sz19
  obtain ⟨hl, n, hf⟩ := ty_struct Try.underlying39 h
  rw [z39] at hl
  simp only [List.forall_mem_cons, z9, z3, z4] at hf
  match c, hl with
  | [a, b, d, e], _ =>
    obtain ⟨h1, h2, h3, h4, _⟩ := hf
    obtain ⟨i, e1, _⟩ := ty_int Try.underlying3 h1
    obtain ⟨l, e2, _⟩ := ty_str Try.underlying9 h2
    obtain ⟨l2, e3, _⟩ := ty_str Try.underlying9 h3
    obtain ⟨q, e4⟩ := ty_bool Try.underlying4 h4
    simp at e1 e2 e3 e4
    subst e1; subst e2; subst e3; subst e4
    exact ⟨⟨i, l, l2, q⟩, rfl⟩
theorem ty_cat (m : Nat) (c : List SV) (h : typed Try.prog m 25 c) : ∃ x : Cat, c = x.row := by
  obtain ⟨z3, z4, z9, z22, z23, z25, z30, z31, z32, z34, z39, z63, z65⟩ := sz19
  obtain ⟨hl, n, hf⟩ := ty_struct Try.underlying25 h
  rw [z25] at hl
  simp only [List.forall_mem_cons, z3, z22, z23] at hf
  match c, hl with
  | [a, b, d], _ =>
    obtain ⟨h1, h2, h3, _⟩ := hf
    obtain ⟨s, e1⟩ := ty_slice Try.underlying22 ty_tab h1
    obtain ⟨s2, e2⟩ := ty_slice Try.underlying23 ty_viw h2
    obtain ⟨i, e3, _⟩ := ty_int Try.underlying3 h3
    simp at e1 e2 e3
    subst e1; subst e2; subst e3
    exact ⟨⟨s, s2, i⟩, rfl⟩
theorem arg_cat {p : PV} (h : argT Try.prog 25 p) : ∃ c : Cat, p = .st c.row := by
  obtain ⟨n, xs, h1, rfl⟩ := arg_struct Try.underlying25 h
  obtain ⟨c, rfl⟩ := ty_cat n xs h1
  exact ⟨c, rfl⟩
theorem arg_str {p : PV} (h : argT Try.prog 9 p) : ∃ s : List UInt8, p = .str s := by
  obtain ⟨n, x, h1, rfl⟩ := arg_one (fun fs e => by rw [Try.underlying9] at e; cases e) h
  obtain ⟨l, e, _⟩ := ty_str Try.underlying9 h1
  simp at e
  exact ⟨l, by rw [e]⟩
end Go.Vm
