/- For every input the law SqlformatExprs of chapter 24 returns true, and what was handed to it reads as before: the tied card. No condition beyond the card's own. -/
import Derived.Test.YtaepmmmcipolbaaGreatDoorSfY
import Derived.Test.YtaepmmmcipolbaaGreatDoorSfW
import Derived.SevenTiedAt
import Derived.LaidLaws
set_option linter.unusedVariables false
set_option linter.unusedSimpArgs false
set_option maxRecDepth 100000
namespace Go.Proofs.YtaepmmmcipolbaaGreatDoor
open Go.Vm Go.RowKit
theorem sqlformatExprs_lifted (os : Os) (started : os.Started) (H : Type) (enc : TypeId × Value → H) :
    ReturnsInHanded {} Tryz.checked os 3 .any (fun w args => (Rows.sqlformatExprsSpec.pre enc Tryz.prog Tryz.f3 [] false w args ∧ laidMetH Tryz.prog Rows.sqlformatExprsRow.laid w) ∧ sizedMet enc Tryz.prog Tryz.f3 (OpenSpec.ofChange Rows.sqlformatExprsSpec) false w args)
      (Rows.sqlformatExprsSpec.post enc Tryz.prog Tryz.f3 false true false false) := by
  refine returns_laid (C := Tryz.checked) (X := fun w _ => laidMetH Tryz.prog Rows.sqlformatExprsRow.laid w) (fun _ _ _ hh h => h.of_heap hh) own24 started (by kernel_rfl) Tryz.func3
    (ChangeSpec.witness_shaped (enc := enc) (C := Tryz.checked) (os := os) (X := fun w _ => laidMetH Tryz.prog Rows.sqlformatExprsRow.laid w) false (World.laidAll Tryz.prog os laid24) #[.agg #[.int .i64 0, .int .i64 0, .int .i64 0, .string ⟨#[]⟩, .string ⟨#[]⟩, .string ⟨#[]⟩, .int .i64 0, .int .i64 0, .slice none 0 0]] 8
      (World.laidAll_os _ _ _) (World.shaped_of_RefB (by kernel_rfl) (by kernel_rfl)) (by kernel_rfl) (by kernel_rfl) (by kernel_rfl) (laidWorld_met os _)) ?_
  intro W base args ds gs before hval hW hL hsh
  have hg : Glob W := glob24 hL hsh
  refine law_contract_at (C := Tryz.checked) (E := EE) (tb := 4) (L := typesL) rfl mixed24 codesOk24 rfl laidOut24 okT24 ?_ (by kernel_rfl) Tryz.underlying4 ?_ W ?_ base args ds gs before hval hW
  · have e : Tryz.f3.params.toList = [26] := by rw [Tryz.params3]
    intro t ht
    rw [e] at ht
    simp only [List.mem_cons, List.not_mem_nil, or_false] at ht
    rcases ht with rfl
    · exact ⟨by decide, by kernel_rfl, of_decide_eq_true (by kernel_rfl)⟩
  · intro ds hds
    rw [Tryz.params3] at hds
    match ds, hds with
    | [d1], _ => exact ⟨rfl, rfl, rfl⟩
  · intro args ha
    rw [Tryz.params3] at ha
    match args, ha with
    | [a], ⟨h1, _⟩ =>
      obtain ⟨a, rfl, la⟩ := arg_expr h1
      exact ⟨gok24 (tabs24 hL), extOkL rfl rfl hg, exprs_law a la⟩
theorem sqlformatExprs_row : Rows.SqlformatExprsSaid :=
  OpenClaim.holds_of_wide 3 Tryz.f3 rfl rfl rfl rfl rfl rfl rfl ⟨rfl, rfl, rfl, rfl, rfl⟩ rfl rfl rfl rfl rfl (by kernel_rfl) Tryz.func3 (by kernel_rfl)
    (of_decide_eq_true (by kernel_rfl)) (by unfold Func.isWrapper; first | (rw [if_pos (by decide +kernel)]; kernel_rfl) | (rw [if_neg (by decide +kernel)]; exact ⟨rfl, rfl⟩))
    (fun os started H enc _ => sqlformatExprs_lifted os started H enc)
theorem sqlformatExprsCard_holds : Rows.SqlformatExprsCardSaid :=
  Claim7.holds_tied_plain_at .later [] [.data, .data, .data, .data, .listed, .data, .data, .data, .data, .data, .pinned] true (true, "34e3c00f988c8c688312a628b1684fa118ba3510191319aa8e16edc9671fa769") false
    sqlformatExprs_row (fun _ h => by cases h) (by kernel_rfl) (fun _ h => by cases h) sqlformatExprs_row_tie rfl ⟨rfl, rfl⟩ (by kernel_rfl) rfl
    (fun f fn hf hfn => by
      obtain rfl : f = 3 := Option.some.inj ((show Tryz.prog.funcNamed "lineage/lineagelaw24.SqlformatExprs" = some 3 by kernel_rfl).symm.trans hf) |>.symm
      obtain rfl : fn = Tryz.f3 := (Option.some.inj (Tryz.func3.symm.trans hfn)).symm
      exact ⟨by kernel_rfl, fun j t ht => by
        rw [Tryz.params3] at ht
        rcases j with _ | j
        · exact (Option.some.inj ht) ▸ stand_26
        · simp at ht⟩)
    (by kernel_rfl)
end Go.Proofs.YtaepmmmcipolbaaGreatDoor
