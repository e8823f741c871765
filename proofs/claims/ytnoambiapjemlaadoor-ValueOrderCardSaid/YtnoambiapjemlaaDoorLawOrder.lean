/- For all three values the law ValueOrder of chapter 01 returns true, and what was handed to it reads as before: the tied card. No condition beyond the card's own. -/
import Derived.Test.YtnoambiapjemlaaDoorVlC
import Derived.Test.YtnoambiapjemlaaDoorVlO
set_option linter.unusedVariables false
set_option maxRecDepth 100000
namespace Go.Vm
open Go.Proofs Go.RowKit
theorem arg_val {p : PV} (h : argT Tryd.prog 23 p) : ∃ v : Val, p = .st v.row := by
  obtain ⟨n, xs, h1, rfl⟩ := arg_struct Tryd.underlying23 h
  obtain ⟨hl, m, hf⟩ := ty_struct Tryd.underlying23 h1
  have z23 : Tryd.prog.cellsOf 23 = 3 := by kernel_rfl
  have z2 : Tryd.prog.cellsOf 2 = 1 := by kernel_rfl
  have z3 : Tryd.prog.cellsOf 3 = 1 := by kernel_rfl
  have z9 : Tryd.prog.cellsOf 9 = 1 := by kernel_rfl
  rw [z23] at hl
  simp only [List.forall_mem_cons, z9, z3, z2] at hf
  match xs, hl with
  | [a, b, d], _ =>
    obtain ⟨h1, h2, h3, _⟩ := hf
    obtain ⟨i, e1, _⟩ := ty_int Tryd.underlying3 h1
    obtain ⟨j, e2, _⟩ := ty_int Tryd.underlying2 h2
    obtain ⟨l, e3, _⟩ := ty_str Tryd.underlying9 h3
    simp at e1 e2 e3
    subst e1; subst e2; subst e3
    exact ⟨⟨i, j, l⟩, rfl⟩
end Go.Vm
namespace Go.Proofs.YtnoambiapjemlaaDoor
open Go.Vm Go.RowKit
theorem valueOrder_lifted (os : Os) (started : os.Started) (H : Type) (enc : TypeId × Value → H) :
    ReturnsInHanded {} Tryd.checked os 6 .any (fun w args => (Rows.valueOrderSpec.pre enc Tryd.prog Tryd.f6 [] false w args ∧ laidMetH Tryd.prog Rows.valueOrderRow.laid w) ∧ sizedMet enc Tryd.prog Tryd.f6 (OpenSpec.ofChange Rows.valueOrderSpec) false w args)
      (Rows.valueOrderSpec.post enc Tryd.prog Tryd.f6 false true false false) := by
  refine returns_laid (C := Tryd.checked) (X := fun w _ => laidMetH Tryd.prog Rows.valueOrderRow.laid w) (fun _ _ _ hh h => h.of_heap hh) own01 started (by kernel_rfl) Tryd.func6
    (ChangeSpec.witness_at (enc := enc) (C := Tryd.checked) (os := os) (X := fun w _ => laidMetH Tryd.prog Rows.valueOrderRow.laid w) false (World.laidAll Tryd.prog os laid01) #[.agg #[.int .i64 0, .int .i64 0, .string ⟨#[]⟩], .agg #[.int .i64 0, .int .i64 0, .string ⟨#[]⟩], .agg #[.int .i64 0, .int .i64 0, .string ⟨#[]⟩]] 8
      (World.laidAll_os _ _ _) (by kernel_rfl) (by kernel_rfl) (by kernel_rfl) (by kernel_rfl) (by kernel_rfl) (laidWorld_met os _)) ?_
  intro W base args ds gs before hval hW hL hsh
  have hg : Glob W := glob01 hL hsh
  refine law_contract_at (C := Tryd.checked) (E := EE) (tb := 4) (L := typesL) rfl mixed01 codesOk01 rfl laidOut01 okT01 ?_ (by kernel_rfl) Tryd.underlying4 ?_ W ?_ base args ds gs before hval hW
  · have e : Tryd.f6.params.toList = [23, 23, 23] := by rw [Tryd.params6]
    intro t ht
    rw [e] at ht
    simp only [List.mem_cons, List.not_mem_nil, or_false, or_self] at ht
    subst ht
    exact ⟨by decide, by kernel_rfl, of_decide_eq_true (by kernel_rfl)⟩
  · intro ds hds
    rw [Tryd.params6] at hds
    match ds, hds with
    | [d1, d2, d3], _ => exact ⟨rfl, rfl, rfl⟩
  · intro args ha
    rw [Tryd.params6] at ha
    match args, ha with
    | [a, b, c], ⟨h1, h2, h3, _⟩ =>
      obtain ⟨a, rfl⟩ := arg_val h1
      obtain ⟨b, rfl⟩ := arg_val h2
      obtain ⟨c, rfl⟩ := arg_val h3
      exact ⟨gok01 W, extOk01 rfl rfl hg, t6 a b c⟩
theorem valueOrder_row : Rows.ValueOrderSaid :=
  OpenClaim.holds_of_wide 6 Tryd.f6 rfl rfl rfl rfl rfl rfl rfl ⟨rfl, rfl, rfl, rfl, rfl⟩ rfl rfl rfl rfl rfl (by kernel_rfl) Tryd.func6 (by kernel_rfl)
    (of_decide_eq_true (by kernel_rfl)) (by unfold Func.isWrapper; first | (rw [if_pos (by decide +kernel)]; kernel_rfl) | (rw [if_neg (by decide +kernel)]; exact ⟨rfl, rfl⟩))
    (fun os started H enc _ => valueOrder_lifted os started H enc)
end Go.Proofs.YtnoambiapjemlaaDoor
