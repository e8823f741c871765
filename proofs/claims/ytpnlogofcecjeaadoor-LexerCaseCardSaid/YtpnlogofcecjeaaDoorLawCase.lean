/- For every source and all bits the law LexerCase of chapter 23 returns true, and what was handed to it reads as before: the tied card. No condition beyond the card's own. -/
import Derived.Test.YtpnlogofcecjeaaDoorLxV
import Derived.Test.YtpnlogofcecjeaaDoorLxH
import Derived.SevenTiedAt
import Derived.LaidLaws
set_option linter.unusedVariables false
set_option linter.unusedSimpArgs false
set_option maxRecDepth 100000
namespace Go.Proofs.YtpnlogofcecjeaaDoor
open Go.Vm Go.RowKit
theorem lexerCase_lifted (os : Os) (started : os.Started) (H : Type) (enc : TypeId × Value → H) :
    ReturnsInHanded {} Tryd.checked os 4 .any (fun w args => (Rows.lexerCaseSpec.pre enc Tryd.prog Tryd.f4 [] false w args ∧ laidMetH Tryd.prog Rows.lexerCaseRow.laid w) ∧ sizedMet enc Tryd.prog Tryd.f4 (OpenSpec.ofChange Rows.lexerCaseSpec) false w args)
      (Rows.lexerCaseSpec.post enc Tryd.prog Tryd.f4 false true false false) := by
  refine returns_laid (C := Tryd.checked) (X := fun w _ => laidMetH Tryd.prog Rows.lexerCaseRow.laid w) (fun _ _ _ hh h => h.of_heap hh) own23 started (by kernel_rfl) Tryd.func4
    (ChangeSpec.witness_shaped (enc := enc) (C := Tryd.checked) (os := os) (X := fun w _ => laidMetH Tryd.prog Rows.lexerCaseRow.laid w) false (World.laidAll Tryd.prog os laid23) #[.string ⟨#[]⟩, .int .u64 0] 8
      (World.laidAll_os _ _ _) (World.shaped_of_RefB (by kernel_rfl) (by kernel_rfl)) (by kernel_rfl) (by kernel_rfl) (by kernel_rfl) (laidWorld_met os _)) ?_
  intro W base args ds gs before hval hW hL hsh
  have hg : Glob W := glob23 hL hsh
  refine law_contract_at (C := Tryd.checked) (E := EE) (tb := 4) (L := typesL) rfl mixed23 codesOk23 rfl laidOut23 okT23 ?_ (by kernel_rfl) Tryd.underlying4 ?_ W ?_ base args ds gs before hval hW
  · have e : Tryd.f4.params.toList = [9, 32] := by rw [Tryd.params4]
    intro t ht
    rw [e] at ht
    simp only [List.mem_cons, List.not_mem_nil, or_false] at ht
    rcases ht with rfl | rfl
    · exact ⟨by decide, by kernel_rfl, of_decide_eq_true (by kernel_rfl)⟩
    · exact ⟨by decide, by kernel_rfl, of_decide_eq_true (by kernel_rfl)⟩
  · intro ds hds
    rw [Tryd.params4] at hds
    match ds, hds with
    | [d1, d2], _ => exact ⟨rfl, rfl, rfl⟩
  · intro args ha
    rw [Tryd.params4] at ha
    match args, ha with
    | [a, b], ⟨h1, h2, _⟩ =>
      obtain ⟨a, rfl, la⟩ := arg_text h1
      obtain ⟨b, rfl, lb⟩ := arg_u64 h2
      exact ⟨gok23 W, extOkL rfl rfl hg, t4 a b la lb⟩
theorem lexerCase_row : Rows.LexerCaseSaid :=
  OpenClaim.holds_of_wide 4 Tryd.f4 rfl rfl rfl rfl rfl rfl rfl ⟨rfl, rfl, rfl, rfl, rfl⟩ rfl rfl rfl rfl rfl (by kernel_rfl) Tryd.func4 (by kernel_rfl)
    (of_decide_eq_true (by kernel_rfl)) (by unfold Func.isWrapper; first | (rw [if_pos (by decide +kernel)]; kernel_rfl) | (rw [if_neg (by decide +kernel)]; exact ⟨rfl, rfl⟩))
    (fun os started H enc _ => lexerCase_lifted os started H enc)
theorem lexerCaseCard_holds : Rows.LexerCaseCardSaid :=
  Claim7.holds_tied_plain_at .later [] [.data, .data, .data, .data, .sentinel, .sentinel, .listed, .data, .pinned] true (true, "fdbf176837e903cd1d3bda5e842365e1e4d001d8ee3a968da76a50728e3ea696") true
    lexerCase_row (fun _ h => by cases h) (by kernel_rfl) (fun _ h => by cases h) lexerCase_row_tie rfl ⟨rfl, rfl⟩ (by kernel_rfl) rfl
    (fun f fn hf hfn => by
      obtain rfl : f = 4 := Option.some.inj ((show Tryd.prog.funcNamed "lineage/lineagelaw23.LexerCase" = some 4 by kernel_rfl).symm.trans hf) |>.symm
      obtain rfl : fn = Tryd.f4 := (Option.some.inj (Tryd.func4.symm.trans hfn)).symm
      exact ⟨by kernel_rfl, fun j t ht => by
        rw [Tryd.params4] at ht
        rcases j with _ | _ | j
        · exact (Option.some.inj ht) ▸ stand_9
        · exact (Option.some.inj ht) ▸ stand_32
        · simp at ht⟩)
    (by kernel_rfl)
end Go.Proofs.YtpnlogofcecjeaaDoor
