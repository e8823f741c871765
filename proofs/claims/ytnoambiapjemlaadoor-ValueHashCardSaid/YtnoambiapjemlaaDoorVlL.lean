/- Chapter 01: what the arguments of its laws are. -/
import Derived.Test.YtnoambiapjemlaaDoorVlC
import Derived.Test.YtnoambiapjemlaaDoorVlZ
set_option linter.unusedVariables false
set_option linter.unusedSimpArgs false
set_option maxRecDepth 100000
namespace Go.Vm
open Go.Proofs Go.RowKit
theorem val_ofB {n : Nat} {xs : List SV} (h1 : typed Tryd.prog n 23 xs) : ∃ v : Val, xs = v.row ∧ -9223372036854775808 ≤ v.n ∧ v.n ≤ 9223372036854775807 := by
  obtain ⟨hl, m, hf⟩ := ty_struct Tryd.underlying23 h1
  have z23 : Tryd.prog.cellsOf 23 = 3 := by kernel_rfl
  have z2 : Tryd.prog.cellsOf 2 = 1 := by kernel_rfl
  have z3 : Tryd.prog.cellsOf 3 = 1 := by kernel_rfl
  have z9 : Tryd.prog.cellsOf 9 = 1 := by kernel_rfl
  rw [z23] at hl
  simp only [List.forall_mem_cons, z9, z3, z2] at hf
  match xs, hl with
  | [a, b, d], _ =>
    obtain ⟨h1, h2, h3, _⟩ := hf
    obtain ⟨i, e1, _⟩ := ty_int Tryd.underlying3 h1
    obtain ⟨j, e2, b1, b2⟩ := ty_int Tryd.underlying2 h2
    obtain ⟨l, e3, _⟩ := ty_str Tryd.underlying9 h3
    simp at e1 e2 e3
    subst e1; subst e2; subst e3
    exact ⟨⟨i, j, l⟩, rfl, b1, b2⟩
theorem val_of {n : Nat} {xs : List SV} (h1 : typed Tryd.prog n 23 xs) : ∃ v : Val, xs = v.row := by
  obtain ⟨v, h, _⟩ := val_ofB h1
  exact ⟨v, h⟩
theorem arg_valB {p : PV} (h : argT Tryd.prog 23 p) : ∃ v : Val, p = .st v.row ∧ -9223372036854775808 ≤ v.n ∧ v.n ≤ 9223372036854775807 := by
  obtain ⟨n, xs, h1, rfl⟩ := arg_struct Tryd.underlying23 h
  obtain ⟨v, rfl, h2⟩ := val_ofB h1
  exact ⟨v, rfl, h2⟩
theorem arg_val {p : PV} (h : argT Tryd.prog 23 p) : ∃ v : Val, p = .st v.row := by
  obtain ⟨n, xs, h1, rfl⟩ := arg_struct Tryd.underlying23 h
  obtain ⟨v, rfl⟩ := val_of h1
  exact ⟨v, rfl⟩
theorem not_struct {t : TypeId} {d : TypeDesc} (hu : Tryd.prog.underlying t = some d) (hd : ∀ fs, d ≠ .struct fs) : ∀ fs, Tryd.prog.underlying t ≠ some (.struct fs) := fun fs h => by
  rw [hu] at h
  injection h with h
  exact hd fs h
theorem arg_vals {p : PV} (h : argT Tryd.prog 31 p) : ∃ s : Slc Val, p = .s (s.sv Val.row) ∧ s.l.length ≤ 9223372036854775807 := by
  obtain ⟨n, x, h1, rfl⟩ := arg_one (not_struct Tryd.underlying31 (fun _ h => by cases h)) h
  cases n with
  | zero => exact h1.elim
  | succ n =>
    simp only [typed, Tryd.underlying31] at h1
    rcases h1 with h1 | ⟨es, h1, hl, h2⟩
    · injection h1 with h1
      exact ⟨.nil, by rw [h1]; rfl, by show (0 : Nat) ≤ _; omega⟩
    · injection h1 with h1
      have : ∀ es : List (List SV), (∀ c ∈ es, c.length = Tryd.prog.cellsOf 23 ∧ typed Tryd.prog n 23 c) → ∃ l : List Val, es = l.map Val.row := by
        intro es
        induction es with
        | nil => intro _; exact ⟨[], rfl⟩
        | cons c es ih =>
          intro h
          obtain ⟨x, rfl⟩ := val_of (h c (List.mem_cons_self ..)).2
          obtain ⟨l, rfl⟩ := ih (fun c hc => h c (List.mem_cons_of_mem _ hc))
          exact ⟨x :: l, rfl⟩
      obtain ⟨l, rfl⟩ := this es h2
      refine ⟨.mk l false, by rw [h1]; rfl, ?_⟩
      have : maxLen = 9223372036854775807 := rfl
      rw [List.length_map] at hl
      show l.length ≤ _
      omega
theorem arg_text {p : PV} (h : argT Tryd.prog 9 p) : ∃ l : List UInt8, p = .str l ∧ l.length ≤ 9223372036854775807 := by
  obtain ⟨n, x, h1, rfl⟩ := arg_one (not_struct Tryd.underlying9 (fun _ h => by cases h)) h
  obtain ⟨l, e, hl⟩ := ty_str Tryd.underlying9 h1
  injection e with e
  exact ⟨l, by rw [e], hl⟩
theorem arg_num {p : PV} (h : argT Tryd.prog 3 p) : ∃ i : Int, p = .i64 i ∧ -9223372036854775808 ≤ i ∧ i ≤ 9223372036854775807 := by
  obtain ⟨n, x, h1, rfl⟩ := arg_one (not_struct Tryd.underlying3 (fun _ h => by cases h)) h
  obtain ⟨i, e, h2, h3⟩ := ty_int Tryd.underlying3 h1
  injection e with e
  exact ⟨i, by rw [e], h2, h3⟩
theorem stand_23 : Tryd.prog.wantsStandIn 23 = false := by kernel_rfl
theorem stand_31 : Tryd.prog.wantsStandIn 31 = false := by kernel_rfl
theorem stand_9 : Tryd.prog.wantsStandIn 9 = false := by kernel_rfl
theorem stand_3 : Tryd.prog.wantsStandIn 3 = false := by kernel_rfl
end Go.Vm
