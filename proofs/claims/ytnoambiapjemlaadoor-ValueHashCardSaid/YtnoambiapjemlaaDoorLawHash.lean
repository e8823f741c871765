/- For every list of values the law ValueHash of chapter 01 returns true, and what was handed to it reads as before: the tied card. No condition beyond the card's own. -/
import Derived.Test.YtnoambiapjemlaaDoorVlL
import Derived.Test.YtnoambiapjemlaaDoorVlH
import Derived.SevenTiedAt
set_option linter.unusedVariables false
set_option linter.unusedSimpArgs false
set_option maxRecDepth 100000
namespace Go.Proofs.YtnoambiapjemlaaDoor
open Go.Vm Go.RowKit
theorem valueHash_lifted (os : Os) (started : os.Started) (H : Type) (enc : TypeId × Value → H) :
    ReturnsInHanded {} Tryd.checked os 5 .any (fun w args => (Rows.valueHashSpec.pre enc Tryd.prog Tryd.f5 [] false w args ∧ laidMetH Tryd.prog Rows.valueHashRow.laid w) ∧ sizedMet enc Tryd.prog Tryd.f5 (OpenSpec.ofChange Rows.valueHashSpec) false w args)
      (Rows.valueHashSpec.post enc Tryd.prog Tryd.f5 false true false false) := by
  refine returns_laid (C := Tryd.checked) (X := fun w _ => laidMetH Tryd.prog Rows.valueHashRow.laid w) (fun _ _ _ hh h => h.of_heap hh) own01 started (by kernel_rfl) Tryd.func5
    (ChangeSpec.witness_at (enc := enc) (C := Tryd.checked) (os := os) (X := fun w _ => laidMetH Tryd.prog Rows.valueHashRow.laid w) false (World.laidAll Tryd.prog os laid01) #[.slice none 0 0] 8
      (World.laidAll_os _ _ _) (by kernel_rfl) (by kernel_rfl) (by kernel_rfl) (by kernel_rfl) (by kernel_rfl) (laidWorld_met os _)) ?_
  intro W base args ds gs before hval hW hL hsh
  have hg : Glob W := glob01 hL hsh
  refine law_contract_at (C := Tryd.checked) (E := EE) (tb := 4) (L := typesL) rfl mixed01 codesOk01 rfl laidOut01 okT01 ?_ (by kernel_rfl) Tryd.underlying4 ?_ W ?_ base args ds gs before hval hW
  · have e : Tryd.f5.params.toList = [31] := by rw [Tryd.params5]
    intro t ht
    rw [e] at ht
    simp only [List.mem_cons, List.not_mem_nil, or_false] at ht
    rcases ht with rfl
    · exact ⟨by decide, by kernel_rfl, of_decide_eq_true (by kernel_rfl)⟩
  · intro ds hds
    rw [Tryd.params5] at hds
    match ds, hds with
    | [d1], _ => exact ⟨rfl, rfl, rfl⟩
  · intro args ha
    rw [Tryd.params5] at ha
    match args, ha with
    | [a], ⟨h1, _⟩ =>
      obtain ⟨a, rfl, la⟩ := arg_vals h1
      exact ⟨gok01 W, extOk01 rfl rfl hg, t5 a la⟩
theorem valueHash_row : Rows.ValueHashSaid :=
  OpenClaim.holds_of_wide 5 Tryd.f5 rfl rfl rfl rfl rfl rfl rfl ⟨rfl, rfl, rfl, rfl, rfl⟩ rfl rfl rfl rfl rfl (by kernel_rfl) Tryd.func5 (by kernel_rfl)
    (of_decide_eq_true (by kernel_rfl)) (by unfold Func.isWrapper; first | (rw [if_pos (by decide +kernel)]; kernel_rfl) | (rw [if_neg (by decide +kernel)]; exact ⟨rfl, rfl⟩))
    (fun os started H enc _ => valueHash_lifted os started H enc)
theorem valueHashCard_holds : Rows.ValueHashCardSaid :=
  Claim7.holds_tied_plain_at .later [] [.data, .data, .data, .data, .sentinel, .sentinel, .pinned] true (true, "5592dd899a621e93962ba3fdecfd2fda4ce9218fd275fa7c902a28ebffdbf86b") true
    valueHash_row (fun _ h => by cases h) (by kernel_rfl) (fun _ h => by cases h) valueHash_row_tie rfl ⟨rfl, rfl⟩ (by kernel_rfl) rfl
    (fun f fn hf hfn => by
      obtain rfl : f = 5 := Option.some.inj ((show Tryd.prog.funcNamed "lineage/lineagelaw01.ValueHash" = some 5 by kernel_rfl).symm.trans hf) |>.symm
      obtain rfl : fn = Tryd.f5 := (Option.some.inj (Tryd.func5.symm.trans hfn)).symm
      exact ⟨by kernel_rfl, fun j t ht => by
        rw [Tryd.params5] at ht
        rcases j with _ | j
        · exact (Option.some.inj ht) ▸ stand_31
        · simp at ht⟩)
    (by kernel_rfl)
end Go.Proofs.YtnoambiapjemlaaDoor
