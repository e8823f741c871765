/-
  DERIVED. GIVEN WITH THE SEED: THE CARDS: each row of YtnoambiapjemlaaDoorRows.lean that lists a variable, with what it lists TIED to the program's text (the seventh form; the later family's looks); each row that meets fmt, with fmt's text TOLD by the authors' own Lean function (tested against real Go, not proved from fmt's source: count such statements apart). THE CARD IS WHAT COUNTS. Prove the row's statement (the work); the ties are given (YtnoambiapjemlaaDoorTie.lean); close each card by the builder's one call (the guide's Derived/Test/ToyasCard.lean, 'card_holds'). Laid BY PROGRAM, IN A SANDBOX (cutbox-door.mjs). By AI agents, Wed Nov 11 2026. No macro, syntax, notation, axiom, sorry.
-/
import Derived.Test.YtnoambiapjemlaaDoorRows
import GoSem.ClaimSeven
namespace Go.Proofs.YtnoambiapjemlaaDoor
namespace Rows

/-- THE TIED CARD OF 'lineagelaw01.ValueLiterals'. -/
def valueLiteralsCard : Claim7 := { stood := { row := valueLiteralsRow, standIns := [], harness := (true, "5592dd899a621e93962ba3fdecfd2fda4ce9218fd275fa7c902a28ebffdbf86b"), looks := true }, kinds := [], alts := [], laidByText := true, laidKinds := [.data, .data, .data, .data, .sentinel, .sentinel, .pinned], laidTests := true, laidLooks := .later }
def ValueLiteralsCardSaid : Prop := Claim7.holds Tryd.pinned (.plain (OpenSpec.ofChange valueLiteralsSpec)) valueLiteralsCard

/-- THE TIED CARD OF 'lineagelaw01.ValueRoundTrip'. -/
def valueRoundTripCard : Claim7 := { stood := { row := valueRoundTripRow, standIns := [], harness := (true, "5592dd899a621e93962ba3fdecfd2fda4ce9218fd275fa7c902a28ebffdbf86b"), looks := true }, kinds := [], alts := [], laidByText := true, laidKinds := [.data, .data, .data, .data, .sentinel, .sentinel, .pinned], laidTests := true, laidLooks := .later }
def ValueRoundTripCardSaid : Prop := Claim7.holds Tryd.pinned (.plain (OpenSpec.ofChange valueRoundTripSpec)) valueRoundTripCard

/-- THE TIED CARD OF 'lineagelaw01.ValueHash'. -/
def valueHashCard : Claim7 := { stood := { row := valueHashRow, standIns := [], harness := (true, "5592dd899a621e93962ba3fdecfd2fda4ce9218fd275fa7c902a28ebffdbf86b"), looks := true }, kinds := [], alts := [], laidByText := true, laidKinds := [.data, .data, .data, .data, .sentinel, .sentinel, .pinned], laidTests := true, laidLooks := .later }
def ValueHashCardSaid : Prop := Claim7.holds Tryd.pinned (.plain (OpenSpec.ofChange valueHashSpec)) valueHashCard

/-- THE TIED CARD OF 'lineagelaw01.ValueOrder'. -/
def valueOrderCard : Claim7 := { stood := { row := valueOrderRow, standIns := [], harness := (true, "5592dd899a621e93962ba3fdecfd2fda4ce9218fd275fa7c902a28ebffdbf86b"), looks := true }, kinds := [], alts := [], laidByText := true, laidKinds := [.data, .data, .data, .data, .sentinel, .sentinel, .pinned], laidTests := true, laidLooks := .later }
def ValueOrderCardSaid : Prop := Claim7.holds Tryd.pinned (.plain (OpenSpec.ofChange valueOrderSpec)) valueOrderCard

/-- THE TIED CARD OF 'lineagelaw01.ValueValidity'. -/
def valueValidityCard : Claim7 := { stood := { row := valueValidityRow, standIns := [], harness := (true, "5592dd899a621e93962ba3fdecfd2fda4ce9218fd275fa7c902a28ebffdbf86b"), looks := true }, kinds := [], alts := [], laidByText := true, laidKinds := [.data, .data, .data, .data, .sentinel, .sentinel, .pinned], laidTests := true, laidLooks := .later }
def ValueValidityCardSaid : Prop := Claim7.holds Tryd.pinned (.plain (OpenSpec.ofChange valueValiditySpec)) valueValidityCard

/-- THE TIED CARD OF 'lineagelaw01.ValueRowOrder'. -/
def valueRowOrderCard : Claim7 := { stood := { row := valueRowOrderRow, standIns := [], harness := (true, "5592dd899a621e93962ba3fdecfd2fda4ce9218fd275fa7c902a28ebffdbf86b"), looks := true }, kinds := [], alts := [], laidByText := true, laidKinds := [.data, .data, .data, .data, .sentinel, .sentinel, .pinned], laidTests := true, laidLooks := .later }
def ValueRowOrderCardSaid : Prop := Claim7.holds Tryd.pinned (.plain (OpenSpec.ofChange valueRowOrderSpec)) valueRowOrderCard

/-- THE TIED CARD OF 'lineagelaw01.ValueComparison'. -/
def valueComparisonCard : Claim7 := { stood := { row := valueComparisonRow, standIns := [], harness := (true, "5592dd899a621e93962ba3fdecfd2fda4ce9218fd275fa7c902a28ebffdbf86b"), looks := true }, kinds := [], alts := [], laidByText := true, laidKinds := [.data, .data, .data, .data, .sentinel, .sentinel, .pinned], laidTests := true, laidLooks := .later }
def ValueComparisonCardSaid : Prop := Claim7.holds Tryd.pinned (.plain (OpenSpec.ofChange valueComparisonSpec)) valueComparisonCard

/-- THE SECOND FORM's CARD OF 'lineagelaw01.ValueLiterals'. -/
def valueLiteralsUptoCard : Claim7 := { stood := { row := valueLiteralsUptoRow, standIns := [], harness := (true, "5592dd899a621e93962ba3fdecfd2fda4ce9218fd275fa7c902a28ebffdbf86b"), looks := true }, kinds := [], alts := [], laidByText := true, laidKinds := [.data, .data, .data, .data, .sentinel, .sentinel, .pinned], laidTests := true, laidLooks := .later }
def ValueLiteralsUptoCardSaid : Prop := Claim7.holds Tryd.pinned (.plain (OpenSpec.upto valueLiteralsSpec)) valueLiteralsUptoCard

/-- THE SECOND FORM's CARD OF 'lineagelaw01.ValueRoundTrip'. -/
def valueRoundTripUptoCard : Claim7 := { stood := { row := valueRoundTripUptoRow, standIns := [], harness := (true, "5592dd899a621e93962ba3fdecfd2fda4ce9218fd275fa7c902a28ebffdbf86b"), looks := true }, kinds := [], alts := [], laidByText := true, laidKinds := [.data, .data, .data, .data, .sentinel, .sentinel, .pinned], laidTests := true, laidLooks := .later }
def ValueRoundTripUptoCardSaid : Prop := Claim7.holds Tryd.pinned (.plain (OpenSpec.upto valueRoundTripSpec)) valueRoundTripUptoCard

/-- THE SECOND FORM's CARD OF 'lineagelaw01.ValueHash'. -/
def valueHashUptoCard : Claim7 := { stood := { row := valueHashUptoRow, standIns := [], harness := (true, "5592dd899a621e93962ba3fdecfd2fda4ce9218fd275fa7c902a28ebffdbf86b"), looks := true }, kinds := [], alts := [], laidByText := true, laidKinds := [.data, .data, .data, .data, .sentinel, .sentinel, .pinned], laidTests := true, laidLooks := .later }
def ValueHashUptoCardSaid : Prop := Claim7.holds Tryd.pinned (.plain (OpenSpec.upto valueHashSpec)) valueHashUptoCard

/-- THE SECOND FORM's CARD OF 'lineagelaw01.ValueOrder'. -/
def valueOrderUptoCard : Claim7 := { stood := { row := valueOrderUptoRow, standIns := [], harness := (true, "5592dd899a621e93962ba3fdecfd2fda4ce9218fd275fa7c902a28ebffdbf86b"), looks := true }, kinds := [], alts := [], laidByText := true, laidKinds := [.data, .data, .data, .data, .sentinel, .sentinel, .pinned], laidTests := true, laidLooks := .later }
def ValueOrderUptoCardSaid : Prop := Claim7.holds Tryd.pinned (.plain (OpenSpec.upto valueOrderSpec)) valueOrderUptoCard

/-- THE SECOND FORM's CARD OF 'lineagelaw01.ValueValidity'. -/
def valueValidityUptoCard : Claim7 := { stood := { row := valueValidityUptoRow, standIns := [], harness := (true, "5592dd899a621e93962ba3fdecfd2fda4ce9218fd275fa7c902a28ebffdbf86b"), looks := true }, kinds := [], alts := [], laidByText := true, laidKinds := [.data, .data, .data, .data, .sentinel, .sentinel, .pinned], laidTests := true, laidLooks := .later }
def ValueValidityUptoCardSaid : Prop := Claim7.holds Tryd.pinned (.plain (OpenSpec.upto valueValiditySpec)) valueValidityUptoCard

/-- THE SECOND FORM's CARD OF 'lineagelaw01.ValueRowOrder'. -/
def valueRowOrderUptoCard : Claim7 := { stood := { row := valueRowOrderUptoRow, standIns := [], harness := (true, "5592dd899a621e93962ba3fdecfd2fda4ce9218fd275fa7c902a28ebffdbf86b"), looks := true }, kinds := [], alts := [], laidByText := true, laidKinds := [.data, .data, .data, .data, .sentinel, .sentinel, .pinned], laidTests := true, laidLooks := .later }
def ValueRowOrderUptoCardSaid : Prop := Claim7.holds Tryd.pinned (.plain (OpenSpec.upto valueRowOrderSpec)) valueRowOrderUptoCard

/-- THE SECOND FORM's CARD OF 'lineagelaw01.ValueComparison'. -/
def valueComparisonUptoCard : Claim7 := { stood := { row := valueComparisonUptoRow, standIns := [], harness := (true, "5592dd899a621e93962ba3fdecfd2fda4ce9218fd275fa7c902a28ebffdbf86b"), looks := true }, kinds := [], alts := [], laidByText := true, laidKinds := [.data, .data, .data, .data, .sentinel, .sentinel, .pinned], laidTests := true, laidLooks := .later }
def ValueComparisonUptoCardSaid : Prop := Claim7.holds Tryd.pinned (.plain (OpenSpec.upto valueComparisonSpec)) valueComparisonUptoCard
end Rows
end Go.Proofs.YtnoambiapjemlaaDoor
