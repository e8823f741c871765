/- For every input the law SqlformatEquals of chapter 24 returns true, and what was handed to it reads as before: the tied card. No condition beyond the card's own. -/
import Derived.Test.YtaepmmmcipolbaaGreatDoorSfYs
import Derived.Test.YtaepmmmcipolbaaGreatDoorSfEq
import Derived.Test.YtaepmmmcipolbaaGreatDoorSfBk
import Derived.SevenTiedAt
import Derived.LaidLaws
set_option linter.unusedVariables false
set_option linter.unusedSimpArgs false
set_option maxRecDepth 100000
namespace Go.Proofs.YtaepmmmcipolbaaGreatDoor
open Go.Vm Go.RowKit
theorem sqlformatEquals_lifted (os : Os) (started : os.Started) (H : Type) (enc : TypeId × Value → H) :
    ReturnsInHanded {} Tryz.checked os 8 .any (fun w args => (Rows.sqlformatEqualsSpec.pre enc Tryz.prog Tryz.f8 [] false w args ∧ laidMetH Tryz.prog Rows.sqlformatEqualsRow.laid w) ∧ sizedMet enc Tryz.prog Tryz.f8 (OpenSpec.ofChange Rows.sqlformatEqualsSpec) false w args)
      (Rows.sqlformatEqualsSpec.post enc Tryz.prog Tryz.f8 false true false false) := by
  refine returns_laid (C := Tryz.checked) (X := fun w _ => laidMetH Tryz.prog Rows.sqlformatEqualsRow.laid w) (fun _ _ _ hh h => h.of_heap hh) own24 started (by kernel_rfl) Tryz.func8
    (ChangeSpec.witness_shaped (enc := enc) (C := Tryz.checked) (os := os) (X := fun w _ => laidMetH Tryz.prog Rows.sqlformatEqualsRow.laid w) false (World.laidAll Tryz.prog os laid24) #[.agg #[.int .i64 0, .string ⟨#[]⟩, .string ⟨#[]⟩, .slice none 0 0, .slice none 0 0, .slice none 0 0, .slice none 0 0, .slice none 0 0, .slice none 0 0, .slice none 0 0], .agg #[.int .i64 0, .string ⟨#[]⟩, .string ⟨#[]⟩, .slice none 0 0, .slice none 0 0, .slice none 0 0, .slice none 0 0, .slice none 0 0, .slice none 0 0, .slice none 0 0]] 8
      (World.laidAll_os _ _ _) (World.shaped_of_RefB (by kernel_rfl) (by kernel_rfl)) (by kernel_rfl) (by kernel_rfl) (by kernel_rfl) (laidWorld_met os _)) ?_
  intro W base args ds gs before hval hW hL hsh
  have hg : Glob W := glob24 hL hsh
  refine law_contract_at (C := Tryz.checked) (E := EE) (tb := 4) (L := typesS) rfl mixed24 codesOk24 rfl laidOut24 oktypesS ?_ (by kernel_rfl) Tryz.underlying4 ?_ W ?_ base args ds gs before hval hW
  · have e : Tryz.f8.params.toList = [57, 57] := by rw [Tryz.params8]
    intro t ht
    rw [e] at ht
    simp only [List.mem_cons, List.not_mem_nil, or_false] at ht
    rcases ht with rfl | rfl
    · exact ⟨by decide, by kernel_rfl, of_decide_eq_true (by kernel_rfl)⟩
    · exact ⟨by decide, by kernel_rfl, of_decide_eq_true (by kernel_rfl)⟩
  · intro ds hds
    rw [Tryz.params8] at hds
    match ds, hds with
    | [d1, d2], _ => exact ⟨rfl, rfl, rfl⟩
  · intro args ha
    rw [Tryz.params8] at ha
    match args, ha with
    | [a, b], ⟨h1, h2, _⟩ =>
      obtain ⟨na, ga⟩ := arg_stmt h1
      obtain ⟨nb, gb⟩ := arg_stmt h2
      obtain ⟨a, rfl, la⟩ := ga (na + nb) (by omega)
      obtain ⟨b, rfl, lb⟩ := gb (na + nb) (by omega)
      exact ⟨gok24 (tabs24 hL), extOkL rfl rfl hg, equals_law _ a la b lb⟩
theorem sqlformatEquals_closed : joinedFacts Tryz.pinned.checked.prog 8 Tryz.f8 Rows.sqlformatEqualsSpec Rows.sqlformatEqualsRow = true := by
  unfold joinedFacts
  simp only [Bool.and_eq_true]
  and_intros
  iterate 16 kernel_rfl
  · exact any_loops 57 (by kernel_rfl) (by kernel_rfl) loops_57
  all_goals kernel_rfl
theorem sqlformatEquals_row : Rows.SqlformatEqualsSaid :=
  OpenClaim.holds_of_wide 8 Tryz.f8 rfl rfl rfl rfl rfl rfl rfl ⟨rfl, rfl, rfl, rfl, rfl⟩ rfl rfl rfl rfl rfl (by kernel_rfl) Tryz.func8 sqlformatEquals_closed
    (of_decide_eq_true (by kernel_rfl)) (by unfold Func.isWrapper; first | (rw [if_pos (by decide +kernel)]; kernel_rfl) | (rw [if_neg (by decide +kernel)]; exact ⟨rfl, rfl⟩))
    (fun os started H enc _ => sqlformatEquals_lifted os started H enc)
theorem sqlformatEqualsCard_holds : Rows.SqlformatEqualsCardSaid :=
  Claim7.holds_tied_plain_at .later [] [.data, .data, .data, .data, .listed, .data, .data, .data, .data, .data, .pinned] true (true, "34e3c00f988c8c688312a628b1684fa118ba3510191319aa8e16edc9671fa769") false
    sqlformatEquals_row (fun _ h => by cases h) (by kernel_rfl) (fun _ h => by cases h) sqlformatEquals_row_tie rfl ⟨rfl, rfl⟩ (by kernel_rfl) rfl
    (fun f fn hf hfn => by
      obtain rfl : f = 8 := Option.some.inj ((show Tryz.prog.funcNamed "lineage/lineagelaw24.SqlformatEquals" = some 8 by kernel_rfl).symm.trans hf) |>.symm
      obtain rfl : fn = Tryz.f8 := (Option.some.inj (Tryz.func8.symm.trans hfn)).symm
      exact ⟨by kernel_rfl, fun j t ht => by
        rw [Tryz.params8] at ht
        rcases j with _ | _ | j
        · exact (Option.some.inj ht) ▸ stand_57
        · exact (Option.some.inj ht) ▸ stand_57
        · simp at ht⟩)
    (by kernel_rfl)
end Go.Proofs.YtaepmmmcipolbaaGreatDoor
