/- The tied card of ValueOrder: for all three values the law returns true. No condition beyond the card's own. -/
import Derived.Test.YtnoambiapjemlaaDoorLawOrder
import Derived.SevenTiedAt
set_option linter.unusedVariables false
set_option maxRecDepth 100000
namespace Go.Proofs.YtnoambiapjemlaaDoor
open Go
theorem stand01 : Tryd.prog.wantsStandIn 23 = false := by kernel_rfl
theorem valueOrderCard_holds : Rows.ValueOrderCardSaid :=
  Claim7.holds_tied_plain_at .later [] [.data, .data, .data, .data, .sentinel, .sentinel, .pinned] true (true, "5592dd899a621e93962ba3fdecfd2fda4ce9218fd275fa7c902a28ebffdbf86b") true
    valueOrder_row (fun _ h => by cases h) (by kernel_rfl) (fun _ h => by cases h) valueOrder_row_tie rfl ⟨rfl, rfl⟩ (by kernel_rfl) rfl
    (fun f fn hf hfn => by
      obtain rfl : f = 6 := Option.some.inj ((show Tryd.prog.funcNamed "lineage/lineagelaw01.ValueOrder" = some 6 by kernel_rfl).symm.trans hf) |>.symm
      obtain rfl : fn = Tryd.f6 := (Option.some.inj (Tryd.func6.symm.trans hfn)).symm
      exact ⟨by kernel_rfl, fun j t ht => by
        rw [Tryd.params6] at ht
        have h3 : t = 23 := by
          rcases j with _ | _ | _ | j
          · simpa using ht.symm
          · simpa using ht.symm
          · simpa using ht.symm
          · simp at ht
        subst h3
        exact stand01⟩)
    (by kernel_rfl)
end Go.Proofs.YtnoambiapjemlaaDoor
