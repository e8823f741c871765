/- For every source, every number and every kind the law LexerSpace of chapter 23 returns true, and what was handed to it reads as before: the tied card. No condition beyond the card's own. -/
import Derived.Test.YtpnlogofcecjeaaDoorLxV
import Derived.Test.YtpnlogofcecjeaaDoorLxK
import Derived.SevenTiedAt
import Derived.LaidLaws
set_option linter.unusedVariables false
set_option linter.unusedSimpArgs false
set_option maxRecDepth 100000
namespace Go.Proofs.YtpnlogofcecjeaaDoor
open Go.Vm Go.RowKit
theorem lexerSpace_lifted (os : Os) (started : os.Started) (H : Type) (enc : TypeId × Value → H) :
    ReturnsInHanded {} Tryd.checked os 3 .any (fun w args => (Rows.lexerSpaceSpec.pre enc Tryd.prog Tryd.f3 [] false w args ∧ laidMetH Tryd.prog Rows.lexerSpaceRow.laid w) ∧ sizedMet enc Tryd.prog Tryd.f3 (OpenSpec.ofChange Rows.lexerSpaceSpec) false w args)
      (Rows.lexerSpaceSpec.post enc Tryd.prog Tryd.f3 false true false false) := by
  refine returns_laid (C := Tryd.checked) (X := fun w _ => laidMetH Tryd.prog Rows.lexerSpaceRow.laid w) (fun _ _ _ hh h => h.of_heap hh) own23 started (by kernel_rfl) Tryd.func3
    (ChangeSpec.witness_shaped (enc := enc) (C := Tryd.checked) (os := os) (X := fun w _ => laidMetH Tryd.prog Rows.lexerSpaceRow.laid w) false (World.laidAll Tryd.prog os laid23) #[.string ⟨#[]⟩, .int .i64 0, .int .u8 0] 8
      (World.laidAll_os _ _ _) (World.shaped_of_RefB (by kernel_rfl) (by kernel_rfl)) (by kernel_rfl) (by kernel_rfl) (by kernel_rfl) (laidWorld_met os _)) ?_
  intro W base args ds gs before hval hW hL hsh
  have hg : Glob W := glob23 hL hsh
  refine law_contract_at (C := Tryd.checked) (E := EE) (tb := 4) (L := typesL) rfl mixed23 codesOk23 rfl laidOut23 okT23 ?_ (by kernel_rfl) Tryd.underlying4 ?_ W ?_ base args ds gs before hval hW
  · have e : Tryd.f3.params.toList = [9, 3, 5] := by rw [Tryd.params3]
    intro t ht
    rw [e] at ht
    simp only [List.mem_cons, List.not_mem_nil, or_false] at ht
    rcases ht with rfl | rfl | rfl
    · exact ⟨by decide, by kernel_rfl, of_decide_eq_true (by kernel_rfl)⟩
    · exact ⟨by decide, by kernel_rfl, of_decide_eq_true (by kernel_rfl)⟩
    · exact ⟨by decide, by kernel_rfl, of_decide_eq_true (by kernel_rfl)⟩
  · intro ds hds
    rw [Tryd.params3] at hds
    match ds, hds with
    | [d1, d2, d3], _ => exact ⟨rfl, rfl, rfl⟩
  · intro args ha
    rw [Tryd.params3] at ha
    match args, ha with
    | [a, b, c], ⟨h1, h2, h3, _⟩ =>
      obtain ⟨a, rfl, la⟩ := arg_text h1
      obtain ⟨b, rfl, lb⟩ := arg_num h2
      obtain ⟨c, rfl, lc⟩ := arg_u8 h3
      exact ⟨gok23 W, extOkL rfl rfl hg, t3 a b c la lb lc⟩
theorem lexerSpace_row : Rows.LexerSpaceSaid :=
  OpenClaim.holds_of_wide 3 Tryd.f3 rfl rfl rfl rfl rfl rfl rfl ⟨rfl, rfl, rfl, rfl, rfl⟩ rfl rfl rfl rfl rfl (by kernel_rfl) Tryd.func3 (by kernel_rfl)
    (of_decide_eq_true (by kernel_rfl)) (by unfold Func.isWrapper; first | (rw [if_pos (by decide +kernel)]; kernel_rfl) | (rw [if_neg (by decide +kernel)]; exact ⟨rfl, rfl⟩))
    (fun os started H enc _ => lexerSpace_lifted os started H enc)
theorem lexerSpaceCard_holds : Rows.LexerSpaceCardSaid :=
  Claim7.holds_tied_plain_at .later [] [.data, .data, .data, .data, .sentinel, .sentinel, .listed, .data, .pinned] true (true, "fdbf176837e903cd1d3bda5e842365e1e4d001d8ee3a968da76a50728e3ea696") true
    lexerSpace_row (fun _ h => by cases h) (by kernel_rfl) (fun _ h => by cases h) lexerSpace_row_tie rfl ⟨rfl, rfl⟩ (by kernel_rfl) rfl
    (fun f fn hf hfn => by
      obtain rfl : f = 3 := Option.some.inj ((show Tryd.prog.funcNamed "lineage/lineagelaw23.LexerSpace" = some 3 by kernel_rfl).symm.trans hf) |>.symm
      obtain rfl : fn = Tryd.f3 := (Option.some.inj (Tryd.func3.symm.trans hfn)).symm
      exact ⟨by kernel_rfl, fun j t ht => by
        rw [Tryd.params3] at ht
        rcases j with _ | _ | _ | j
        · exact (Option.some.inj ht) ▸ stand_9
        · exact (Option.some.inj ht) ▸ stand_3
        · exact (Option.some.inj ht) ▸ stand_5
        · simp at ht⟩)
    (by kernel_rfl)
end Go.Proofs.YtpnlogofcecjeaaDoor
