/- For every byte string the law CatalogDecode of chapter 19 returns true, and what was handed to it reads as before. No condition. -/
import Derived.Test.YtfgkhgkgaedcmaaGreatCbZ
import Derived.Test.YtfgkhgkgaedcmaaGreatRows
import Derived.SizedLaws
set_option linter.unusedVariables false
set_option maxRecDepth 100000
namespace Go.Proofs.YtfgkhgkgaedcmaaGreat
open Go.Vm Go.RowKit
theorem own19 : ownKnob Tryz.prog.godebug = none := by kernel_rfl
theorem laidOut19 : laidOutB Tryz.prog = true := by kernel_rfl
theorem mixed19 : Tryz.prog.follows .mixedOrders = true := by kernel_rfl
theorem catalogDecode_lifted (os : Os) (started : os.Started) (H : Type) (enc : TypeId × Value → H) :
    ReturnsInHanded {} Tryz.checked os 4 .any (Rows.catalogDecodeSpec.pre6 enc Tryz.prog Tryz.f4 Rows.catalogDecodeRow.domain false) (Rows.catalogDecodeSpec.post enc Tryz.prog Tryz.f4 false true false false) := by
  refine returnsInHanded_of_change_sized (C := Tryz.checked) own19 started (by kernel_rfl) Tryz.func4
    (ChangeSpec.witness6 (enc := enc) (C := Tryz.checked) false ⟨#[], #[.slice none 0 0], []⟩ 8 (by kernel_rfl) (by kernel_rfl) (by kernel_rfl) (by kernel_rfl)) ?_
  intro W base args ds gs before hval hW _ hz _
  refine law_contract (C := Tryz.checked) (E := EE) (tb := 4) (L := typesL) rfl mixed19 codesOk19 rfl laidOut19 okT19 ?_ (by kernel_rfl) Tryz.underlying4 ?_ ?_ W base args ds gs before hval hW hz
  · have e : Tryz.f4.params.toList = [28] := by rw [Tryz.params4]
    intro t ht
    rw [e] at ht
    simp only [List.mem_cons, List.not_mem_nil, or_false] at ht
    rcases ht with rfl
    exact ⟨by decide, by kernel_rfl, of_decide_eq_true (by kernel_rfl)⟩
  · intro ds hds
    rw [Tryz.params4] at hds
    match ds, hds with
    | [d1], _ => exact ⟨rfl, rfl, rfl⟩
  · intro W args ha
    rw [Tryz.params4] at ha
    match args, ha with
    | [a], ⟨h1, _⟩ =>
      obtain ⟨a, rfl⟩ := arg_bytes h1
      exact ⟨gok19 W, ext19 W, lawDec a awake19⟩
theorem catalogDecode_holds : Rows.CatalogDecodeSaid :=
  OpenClaim.holds_of_wide 4 Tryz.f4 rfl rfl rfl rfl rfl rfl rfl ⟨rfl, rfl, rfl, rfl, rfl⟩ rfl rfl rfl rfl rfl (by kernel_rfl) Tryz.func4 (by kernel_rfl)
    (of_decide_eq_true (by kernel_rfl)) (by unfold Func.isWrapper; first | (rw [if_pos (by decide +kernel)]; kernel_rfl) | (rw [if_neg (by decide +kernel)]; exact ⟨rfl, rfl⟩))
    (fun os started H enc _ => catalogDecode_lifted os started H enc)
end Go.Proofs.YtfgkhgkgaedcmaaGreat
