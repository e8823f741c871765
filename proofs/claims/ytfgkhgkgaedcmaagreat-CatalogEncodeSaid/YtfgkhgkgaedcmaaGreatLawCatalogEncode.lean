/- For every catalog the law CatalogEncode of chapter 19 returns true, and what was handed to it reads as before. No condition. -/
import Derived.Test.YtfgkhgkgaedcmaaGreatCbZ
import Derived.Test.YtfgkhgkgaedcmaaGreatRows
import Derived.SizedLaws
set_option linter.unusedVariables false
set_option maxRecDepth 100000
namespace Go.Proofs.YtfgkhgkgaedcmaaGreat
open Go.Vm Go.RowKit
theorem own19 : ownKnob Tryz.prog.godebug = none := by kernel_rfl
theorem laidOut19 : laidOutB Tryz.prog = true := by kernel_rfl
theorem mixed19 : Tryz.prog.follows .mixedOrders = true := by kernel_rfl
theorem catalogEncode_lifted (os : Os) (started : os.Started) (H : Type) (enc : TypeId × Value → H) :
    ReturnsInHanded {} Tryz.checked os 3 .any (Rows.catalogEncodeSpec.pre6 enc Tryz.prog Tryz.f3 Rows.catalogEncodeRow.domain false) (Rows.catalogEncodeSpec.post enc Tryz.prog Tryz.f3 false true false false) := by
  refine returnsInHanded_of_change_sized (C := Tryz.checked) own19 started (by kernel_rfl) Tryz.func3
    (ChangeSpec.witness6 (enc := enc) (C := Tryz.checked) false ⟨#[], #[.agg #[.slice none 0 0, .slice none 0 0, .int .i64 0]], []⟩ 8 (by kernel_rfl) (by kernel_rfl) (by kernel_rfl) (by kernel_rfl)) ?_
  intro W base args ds gs before hval hW _ hz _
  refine law_contract (C := Tryz.checked) (E := EE) (tb := 4) (L := typesL) rfl mixed19 codesOk19 rfl laidOut19 okT19 ?_ (by kernel_rfl) Tryz.underlying4 ?_ ?_ W base args ds gs before hval hW hz
  · have e : Tryz.f3.params.toList = [25] := by rw [Tryz.params3]
    intro t ht
    rw [e] at ht
    simp only [List.mem_cons, List.not_mem_nil, or_false] at ht
    rcases ht with rfl
    exact ⟨by decide, by kernel_rfl, of_decide_eq_true (by kernel_rfl)⟩
  · intro ds hds
    rw [Tryz.params3] at hds
    match ds, hds with
    | [d1], _ => exact ⟨rfl, rfl, rfl⟩
  · intro W args ha
    rw [Tryz.params3] at ha
    match args, ha with
    | [a], ⟨h1, _⟩ =>
      obtain ⟨a, rfl⟩ := arg_cat h1
      exact ⟨gok19 W, ext19 W, lawEnc a awake19⟩
theorem catalogEncode_holds : Rows.CatalogEncodeSaid :=
  OpenClaim.holds_of_wide 3 Tryz.f3 rfl rfl rfl rfl rfl rfl rfl ⟨rfl, rfl, rfl, rfl, rfl⟩ rfl rfl rfl rfl rfl (by kernel_rfl) Tryz.func3 (by kernel_rfl)
    (of_decide_eq_true (by kernel_rfl)) (by unfold Func.isWrapper; first | (rw [if_pos (by decide +kernel)]; kernel_rfl) | (rw [if_neg (by decide +kernel)]; exact ⟨rfl, rfl⟩))
    (fun os started H enc _ => catalogEncode_lifted os started H enc)
end Go.Proofs.YtfgkhgkgaedcmaaGreat
