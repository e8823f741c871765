/- For every source the law LexerOffsets of chapter 23 returns true, and what was handed to it reads as before: the tied card. No condition beyond the card's own. -/
import Derived.Test.YtpnlogofcecjeaaGreatDoorLxV
import Derived.Test.YtpnlogofcecjeaaGreatDoorLyB
import Derived.SevenTiedAt
import Derived.LaidLaws
set_option linter.unusedVariables false
set_option linter.unusedSimpArgs false
set_option maxRecDepth 100000
namespace Go.Proofs.YtpnlogofcecjeaaGreatDoor
open Go.Vm Go.RowKit
theorem lexerOffsets_lifted (os : Os) (started : os.Started) (H : Type) (enc : TypeId × Value → H) :
    ReturnsInHanded {} Tryz.checked os 4 .any (fun w args => (Rows.lexerOffsetsSpec.pre enc Tryz.prog Tryz.f4 [] false w args ∧ laidMetH Tryz.prog Rows.lexerOffsetsRow.laid w) ∧ sizedMet enc Tryz.prog Tryz.f4 (OpenSpec.ofChange Rows.lexerOffsetsSpec) false w args)
      (Rows.lexerOffsetsSpec.post enc Tryz.prog Tryz.f4 false true false false) := by
  refine returns_laid (C := Tryz.checked) (X := fun w _ => laidMetH Tryz.prog Rows.lexerOffsetsRow.laid w) (fun _ _ _ hh h => h.of_heap hh) own23 started (by kernel_rfl) Tryz.func4
    (ChangeSpec.witness_shaped (enc := enc) (C := Tryz.checked) (os := os) (X := fun w _ => laidMetH Tryz.prog Rows.lexerOffsetsRow.laid w) false (World.laidAll Tryz.prog os laid23) #[.string ⟨#[]⟩] 8
      (World.laidAll_os _ _ _) (World.shaped_of_RefB (by kernel_rfl) (by kernel_rfl)) (by kernel_rfl) (by kernel_rfl) (by kernel_rfl) (laidWorld_met os _)) ?_
  intro W base args ds gs before hval hW hL hsh
  have hg : Glob W := glob23 hL hsh
  refine law_contract_at (C := Tryz.checked) (E := EE) (tb := 4) (L := typesL) rfl mixed23 codesOk23 rfl laidOut23 okT23 ?_ (by kernel_rfl) Tryz.underlying4 ?_ W ?_ base args ds gs before hval hW
  · have e : Tryz.f4.params.toList = [9] := by rw [Tryz.params4]
    intro t ht
    rw [e] at ht
    simp only [List.mem_cons, List.not_mem_nil, or_false] at ht
    rcases ht with rfl
    · exact ⟨by decide, by kernel_rfl, of_decide_eq_true (by kernel_rfl)⟩
  · intro ds hds
    rw [Tryz.params4] at hds
    match ds, hds with
    | [d1], _ => exact ⟨rfl, rfl, rfl⟩
  · intro args ha
    rw [Tryz.params4] at ha
    match args, ha with
    | [a], ⟨h1, _⟩ =>
      obtain ⟨a, rfl, la⟩ := arg_text h1
      exact ⟨gok23 W, extOkL rfl rfl hg, t4 a la⟩
theorem lexerOffsets_row : Rows.LexerOffsetsSaid :=
  OpenClaim.holds_of_wide 4 Tryz.f4 rfl rfl rfl rfl rfl rfl rfl ⟨rfl, rfl, rfl, rfl, rfl⟩ rfl rfl rfl rfl rfl (by kernel_rfl) Tryz.func4 (by kernel_rfl)
    (of_decide_eq_true (by kernel_rfl)) (by unfold Func.isWrapper; first | (rw [if_pos (by decide +kernel)]; kernel_rfl) | (rw [if_neg (by decide +kernel)]; exact ⟨rfl, rfl⟩))
    (fun os started H enc _ => lexerOffsets_lifted os started H enc)
theorem lexerOffsetsCard_holds : Rows.LexerOffsetsCardSaid :=
  Claim7.holds_tied_plain_at .later [] [.data, .data, .data, .data, .sentinel, .sentinel, .listed, .data, .pinned] true (true, "2d858f924785cbdd9a17f405d64abebb84fb2f4b372c9ab6d23ef2107ae821c1") true
    lexerOffsets_row (fun _ h => by cases h) (by kernel_rfl) (fun _ h => by cases h) lexerOffsets_row_tie rfl ⟨rfl, rfl⟩ (by kernel_rfl) rfl
    (fun f fn hf hfn => by
      obtain rfl : f = 4 := Option.some.inj ((show Tryz.prog.funcNamed "lineage/lineagelaw23.LexerOffsets" = some 4 by kernel_rfl).symm.trans hf) |>.symm
      obtain rfl : fn = Tryz.f4 := (Option.some.inj (Tryz.func4.symm.trans hfn)).symm
      exact ⟨by kernel_rfl, fun j t ht => by
        rw [Tryz.params4] at ht
        rcases j with _ | j
        · exact (Option.some.inj ht) ▸ stand_9
        · simp at ht⟩)
    (by kernel_rfl)
end Go.Proofs.YtpnlogofcecjeaaGreatDoor
