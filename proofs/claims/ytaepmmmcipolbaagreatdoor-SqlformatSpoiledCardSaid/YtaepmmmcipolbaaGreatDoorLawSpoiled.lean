/- For every input the law SqlformatSpoiled of chapter 24 returns true, and what was handed to it reads as before: the tied card. No condition beyond the card's own. -/
import Derived.Test.YtaepmmmcipolbaaGreatDoorSfY
import Derived.Test.YtaepmmmcipolbaaGreatDoorSfSp
import Derived.SevenTiedAt
import Derived.LaidLaws
set_option linter.unusedVariables false
set_option linter.unusedSimpArgs false
set_option maxRecDepth 100000
namespace Go.Proofs.YtaepmmmcipolbaaGreatDoor
open Go.Vm Go.RowKit
theorem sqlformatSpoiled_lifted (os : Os) (started : os.Started) (H : Type) (enc : TypeId × Value → H) :
    ReturnsInHanded {} Tryz.checked os 7 .any (fun w args => (Rows.sqlformatSpoiledSpec.pre enc Tryz.prog Tryz.f7 [] false w args ∧ laidMetH Tryz.prog Rows.sqlformatSpoiledRow.laid w) ∧ sizedMet enc Tryz.prog Tryz.f7 (OpenSpec.ofChange Rows.sqlformatSpoiledSpec) false w args)
      (Rows.sqlformatSpoiledSpec.post enc Tryz.prog Tryz.f7 false true false false) := by
  refine returns_laid (C := Tryz.checked) (X := fun w _ => laidMetH Tryz.prog Rows.sqlformatSpoiledRow.laid w) (fun _ _ _ hh h => h.of_heap hh) own24 started (by kernel_rfl) Tryz.func7
    (ChangeSpec.witness_shaped (enc := enc) (C := Tryz.checked) (os := os) (X := fun w _ => laidMetH Tryz.prog Rows.sqlformatSpoiledRow.laid w) false (World.laidAll Tryz.prog os laid24) #[.agg #[.int .i64 0, .int .i64 0, .int .i64 0, .string ⟨#[]⟩, .string ⟨#[]⟩, .string ⟨#[]⟩, .int .i64 0, .int .i64 0, .slice none 0 0], .int .u8 0] 8
      (World.laidAll_os _ _ _) (World.shaped_of_RefB (by kernel_rfl) (by kernel_rfl)) (by kernel_rfl) (by kernel_rfl) (by kernel_rfl) (laidWorld_met os _)) ?_
  intro W base args ds gs before hval hW hL hsh
  have hg : Glob W := glob24 hL hsh
  refine law_contract_at (C := Tryz.checked) (E := EE) (tb := 4) (L := typesL) rfl mixed24 codesOk24 rfl laidOut24 okT24 ?_ (by kernel_rfl) Tryz.underlying4 ?_ W ?_ base args ds gs before hval hW
  · have e : Tryz.f7.params.toList = [26, 5] := by rw [Tryz.params7]
    intro t ht
    rw [e] at ht
    simp only [List.mem_cons, List.not_mem_nil, or_false] at ht
    rcases ht with rfl | rfl
    · exact ⟨by decide, by kernel_rfl, of_decide_eq_true (by kernel_rfl)⟩
    · exact ⟨by decide, by kernel_rfl, of_decide_eq_true (by kernel_rfl)⟩
  · intro ds hds
    rw [Tryz.params7] at hds
    match ds, hds with
    | [d1, d2], _ => exact ⟨rfl, rfl, rfl⟩
  · intro args ha
    rw [Tryz.params7] at ha
    match args, ha with
    | [a, b], ⟨h1, h2, _⟩ =>
      obtain ⟨a, rfl, la⟩ := arg_expr h1
      obtain ⟨b, rfl, lb⟩ := arg_u8 h2
      exact ⟨gok24 (tabs24 hL), extOkL rfl rfl hg, spoiled_law a la b lb⟩
theorem sqlformatSpoiled_row : Rows.SqlformatSpoiledSaid :=
  OpenClaim.holds_of_wide 7 Tryz.f7 rfl rfl rfl rfl rfl rfl rfl ⟨rfl, rfl, rfl, rfl, rfl⟩ rfl rfl rfl rfl rfl (by kernel_rfl) Tryz.func7 (by kernel_rfl)
    (of_decide_eq_true (by kernel_rfl)) (by unfold Func.isWrapper; first | (rw [if_pos (by decide +kernel)]; kernel_rfl) | (rw [if_neg (by decide +kernel)]; exact ⟨rfl, rfl⟩))
    (fun os started H enc _ => sqlformatSpoiled_lifted os started H enc)
theorem sqlformatSpoiledCard_holds : Rows.SqlformatSpoiledCardSaid :=
  Claim7.holds_tied_plain_at .later [] [.data, .data, .data, .data, .listed, .data, .data, .data, .data, .data, .pinned] true (true, "34e3c00f988c8c688312a628b1684fa118ba3510191319aa8e16edc9671fa769") false
    sqlformatSpoiled_row (fun _ h => by cases h) (by kernel_rfl) (fun _ h => by cases h) sqlformatSpoiled_row_tie rfl ⟨rfl, rfl⟩ (by kernel_rfl) rfl
    (fun f fn hf hfn => by
      obtain rfl : f = 7 := Option.some.inj ((show Tryz.prog.funcNamed "lineage/lineagelaw24.SqlformatSpoiled" = some 7 by kernel_rfl).symm.trans hf) |>.symm
      obtain rfl : fn = Tryz.f7 := (Option.some.inj (Tryz.func7.symm.trans hfn)).symm
      exact ⟨by kernel_rfl, fun j t ht => by
        rw [Tryz.params7] at ht
        rcases j with _ | _ | j
        · exact (Option.some.inj ht) ▸ stand_26
        · exact (Option.some.inj ht) ▸ stand_5
        · simp at ht⟩)
    (by kernel_rfl)
end Go.Proofs.YtaepmmmcipolbaaGreatDoor
