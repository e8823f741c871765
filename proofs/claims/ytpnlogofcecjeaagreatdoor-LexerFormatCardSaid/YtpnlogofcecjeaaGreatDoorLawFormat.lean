/- For every source and every list of tokens the law LexerFormat of chapter 23 returns true, and what was handed to it reads as before: the tied card. No condition beyond the card's own. -/
import Derived.Test.YtpnlogofcecjeaaGreatDoorLxV
import Derived.Test.YtpnlogofcecjeaaGreatDoorLyE
import Derived.SevenTiedAt
import Derived.LaidLaws
set_option linter.unusedVariables false
set_option linter.unusedSimpArgs false
set_option maxRecDepth 100000
namespace Go.Proofs.YtpnlogofcecjeaaGreatDoor
open Go.Vm Go.RowKit
theorem lexerFormat_lifted (os : Os) (started : os.Started) (H : Type) (enc : TypeId × Value → H) :
    ReturnsInHanded {} Tryz.checked os 7 .any (fun w args => (Rows.lexerFormatSpec.pre enc Tryz.prog Tryz.f7 [] false w args ∧ laidMetH Tryz.prog Rows.lexerFormatRow.laid w) ∧ sizedMet enc Tryz.prog Tryz.f7 (OpenSpec.ofChange Rows.lexerFormatSpec) false w args)
      (Rows.lexerFormatSpec.post enc Tryz.prog Tryz.f7 false true false false) := by
  refine returns_laid (C := Tryz.checked) (X := fun w _ => laidMetH Tryz.prog Rows.lexerFormatRow.laid w) (fun _ _ _ hh h => h.of_heap hh) own23 started (by kernel_rfl) Tryz.func7
    (ChangeSpec.witness_shaped (enc := enc) (C := Tryz.checked) (os := os) (X := fun w _ => laidMetH Tryz.prog Rows.lexerFormatRow.laid w) false (World.laidAll Tryz.prog os laid23) #[.string ⟨#[]⟩, .slice none 0 0] 8
      (World.laidAll_os _ _ _) (World.shaped_of_RefB (by kernel_rfl) (by kernel_rfl)) (by kernel_rfl) (by kernel_rfl) (by kernel_rfl) (laidWorld_met os _)) ?_
  intro W base args ds gs before hval hW hL hsh
  have hg : Glob W := glob23 hL hsh
  refine law_contract_at (C := Tryz.checked) (E := EE) (tb := 4) (L := typesF) rfl mixed23 codesOk23 rfl laidOut23 okTF ?_ (by kernel_rfl) Tryz.underlying4 ?_ W ?_ base args ds gs before hval hW
  · have e : Tryz.f7.params.toList = [9, 23] := by rw [Tryz.params7]
    intro t ht
    rw [e] at ht
    simp only [List.mem_cons, List.not_mem_nil, or_false] at ht
    rcases ht with rfl | rfl
    · exact ⟨by decide, by kernel_rfl, of_decide_eq_true (by kernel_rfl)⟩
    · exact ⟨by decide, by kernel_rfl, of_decide_eq_true (by kernel_rfl)⟩
  · intro ds hds
    rw [Tryz.params7] at hds
    match ds, hds with
    | [d1, d2], _ => exact ⟨rfl, rfl, rfl⟩
  · intro args ha
    rw [Tryz.params7] at ha
    match args, ha with
    | [a, b], ⟨h1, h2, _⟩ =>
      obtain ⟨a, rfl, la⟩ := arg_text h1
      obtain ⟨b, rfl, lb⟩ := arg_toks h2
      exact ⟨gok23 W, extOkL rfl rfl hg, t7 a b la lb⟩
theorem lexerFormat_row : Rows.LexerFormatSaid :=
  OpenClaim.holds_of_wide 7 Tryz.f7 rfl rfl rfl rfl rfl rfl rfl ⟨rfl, rfl, rfl, rfl, rfl⟩ rfl rfl rfl rfl rfl (by kernel_rfl) Tryz.func7 (by kernel_rfl)
    (of_decide_eq_true (by kernel_rfl)) (by unfold Func.isWrapper; first | (rw [if_pos (by decide +kernel)]; kernel_rfl) | (rw [if_neg (by decide +kernel)]; exact ⟨rfl, rfl⟩))
    (fun os started H enc _ => lexerFormat_lifted os started H enc)
theorem lexerFormatCard_holds : Rows.LexerFormatCardSaid :=
  Claim7.holds_tied_plain_at .later [] [.data, .data, .data, .data, .sentinel, .sentinel, .listed, .data, .pinned] true (true, "2d858f924785cbdd9a17f405d64abebb84fb2f4b372c9ab6d23ef2107ae821c1") true
    lexerFormat_row (fun _ h => by cases h) (by kernel_rfl) (fun _ h => by cases h) lexerFormat_row_tie rfl ⟨rfl, rfl⟩ (by kernel_rfl) rfl
    (fun f fn hf hfn => by
      obtain rfl : f = 7 := Option.some.inj ((show Tryz.prog.funcNamed "lineage/lineagelaw23.LexerFormat" = some 7 by kernel_rfl).symm.trans hf) |>.symm
      obtain rfl : fn = Tryz.f7 := (Option.some.inj (Tryz.func7.symm.trans hfn)).symm
      exact ⟨by kernel_rfl, fun j t ht => by
        rw [Tryz.params7] at ht
        rcases j with _ | _ | j
        · exact (Option.some.inj ht) ▸ stand_9
        · exact (Option.some.inj ht) ▸ stand_23
        · simp at ht⟩)
    (by kernel_rfl)
end Go.Proofs.YtpnlogofcecjeaaGreatDoor
