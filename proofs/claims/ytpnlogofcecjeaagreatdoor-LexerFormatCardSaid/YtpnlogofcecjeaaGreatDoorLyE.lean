/- Chapter 23: a list of tokens as an argument. -/
import Derived.Test.YtpnlogofcecjeaaGreatDoorLxV
import Derived.Test.YtpnlogofcecjeaaGreatDoorLyD
set_option linter.unusedVariables false
set_option linter.unusedSimpArgs false
set_option maxRecDepth 100000
namespace Go.Vm
open Go.Proofs Go.RowKit
def typesF : List TypeId := [3, 4, 5, 9, 100, 30, 23]
theorem okTF : okT Tryz.prog typesF = true := by kernel_rfl
theorem tok_of {n : Nat} {xs : List SV} (h1 : typed Tryz.prog n 30 xs) : ∃ t : Tok, xs = t.row := by
  obtain ⟨hl, m, hf⟩ := ty_struct Tryz.underlying30 h1
  have z1 : Tryz.prog.cellsOf 30 = 3 := by kernel_rfl
  have z2 : Tryz.prog.cellsOf 3 = 1 := by kernel_rfl
  have z3 : Tryz.prog.cellsOf 9 = 1 := by kernel_rfl
  rw [z1] at hl
  simp only [List.forall_mem_cons, z2, z3] at hf
  match xs, hl with
  | [a, b, d], _ =>
    obtain ⟨h1, h2, h3, _⟩ := hf
    obtain ⟨i, e1, _⟩ := ty_int Tryz.underlying3 h1
    obtain ⟨j, e2, _⟩ := ty_int Tryz.underlying3 h2
    obtain ⟨l, e3, _⟩ := ty_str Tryz.underlying9 h3
    simp at e1 e2 e3
    subst e1; subst e2; subst e3
    exact ⟨⟨i, j, l⟩, rfl⟩
theorem arg_toks {p : PV} (h : argT Tryz.prog 23 p) : ∃ s : Slc Tok, p = .s (s.sv Tok.row) ∧ s.l.length ≤ 9223372036854775807 := by
  obtain ⟨n, x, h1, rfl⟩ := arg_one (not_struct Tryz.underlying23 (fun _ h => by cases h)) h
  cases n with
  | zero => exact h1.elim
  | succ n =>
    simp only [typed, Tryz.underlying23] at h1
    rcases h1 with h1 | ⟨es, h1, hl, h2⟩
    · injection h1 with h1
      exact ⟨.nil, by rw [h1]; rfl, by show (0 : Nat) ≤ _; omega⟩
    · injection h1 with h1
      have : ∀ es : List (List SV), (∀ c ∈ es, c.length = Tryz.prog.cellsOf 30 ∧ typed Tryz.prog n 30 c) → ∃ l : List Tok, es = l.map Tok.row := by
        intro es
        induction es with
        | nil => intro _; exact ⟨[], rfl⟩
        | cons c es ih =>
          intro h
          obtain ⟨x, rfl⟩ := tok_of (h c (List.mem_cons_self ..)).2
          obtain ⟨l, rfl⟩ := ih (fun c hc => h c (List.mem_cons_of_mem _ hc))
          exact ⟨x :: l, rfl⟩
      obtain ⟨l, rfl⟩ := this es h2
      refine ⟨.mk l false, by rw [h1]; rfl, ?_⟩
      have : maxLen = 9223372036854775807 := rfl
      rw [List.length_map] at hl
      show l.length ≤ _
      omega
theorem stand_23 : Tryz.prog.wantsStandIn 23 = false := by kernel_rfl
end Go.Vm
