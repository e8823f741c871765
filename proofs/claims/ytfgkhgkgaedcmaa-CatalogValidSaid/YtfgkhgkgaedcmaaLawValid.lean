/- For every catalog and every name the law CatalogValid of chapter 19 returns true, and what was handed to it reads as before. No condition. -/
import Derived.Test.YtfgkhgkgaedcmaaCaZ
import Derived.Test.YtfgkhgkgaedcmaaRows
set_option linter.unusedVariables false
set_option maxRecDepth 100000
namespace Go.Proofs.Ytfgkhgkgaedcmaa
open Go.Vm Go.RowKit
theorem own19 : ownKnob Try.prog.godebug = none := by kernel_rfl
theorem laidOut19 : laidOutB Try.prog = true := by kernel_rfl
theorem mixed19 : Try.prog.follows .mixedOrders = true := by kernel_rfl
theorem catalogValid_lifted (os : Os) (started : os.Started) (H : Type) (enc : TypeId × Value → H) :
    ReturnsInHanded {} Try.checked os 3 .any (Rows.catalogValidSpec.pre6 enc Try.prog Try.f3 Rows.catalogValidRow.domain false) (Rows.catalogValidSpec.post enc Try.prog Try.f3 false true false false) := by
  refine returnsInHanded_of_change (C := Try.checked) own19 started (by kernel_rfl) Try.func3
    (ChangeSpec.witness6 (enc := enc) (C := Try.checked) false ⟨#[], #[.agg #[.slice none 0 0, .slice none 0 0, .int .i64 0], .string ⟨#[]⟩], []⟩ 8 (by kernel_rfl) (by kernel_rfl) (by kernel_rfl) (by kernel_rfl)) ?_
  intro W base args ds gs before hval hW _ _
  refine law_contract (C := Try.checked) (E := EE) (tb := 4) (L := typesL) rfl mixed19 codesOk19 rfl laidOut19 okT19 ?_ (by kernel_rfl) Try.underlying4 ?_ ?_ W base args ds gs before hval hW
  · have e : Try.f3.params.toList = [25, 9] := by rw [Try.params3]
    intro t ht
    rw [e] at ht
    simp only [List.mem_cons, List.not_mem_nil, or_false] at ht
    rcases ht with rfl | rfl
    · exact ⟨by decide, by kernel_rfl, of_decide_eq_true (by kernel_rfl)⟩
    · exact ⟨by decide, by kernel_rfl, of_decide_eq_true (by kernel_rfl)⟩
  · intro ds hds
    rw [Try.params3] at hds
    match ds, hds with
    | [d1, d2], _ => exact ⟨rfl, rfl, rfl⟩
  · intro W args ha
    rw [Try.params3] at ha
    match args, ha with
    | [a, b], ⟨h1, h2, _⟩ =>
      obtain ⟨c, rfl⟩ := arg_cat h1
      obtain ⟨s, rfl⟩ := arg_str h2
      exact ⟨gok19 W, ext19 W, t3 c s awake19⟩
theorem catalogValid_holds : Rows.CatalogValidSaid :=
  OpenClaim.holds_of_wide 3 Try.f3 rfl rfl rfl rfl rfl rfl rfl ⟨rfl, rfl, rfl, rfl, rfl⟩ rfl rfl rfl rfl rfl (by kernel_rfl) Try.func3 (by kernel_rfl)
    (of_decide_eq_true (by kernel_rfl)) (by unfold Func.isWrapper; first | (rw [if_pos (by decide +kernel)]; kernel_rfl) | (rw [if_neg (by decide +kernel)]; exact ⟨rfl, rfl⟩))
    (fun os started H enc _ => catalogValid_lifted os started H enc)
end Go.Proofs.Ytfgkhgkgaedcmaa
