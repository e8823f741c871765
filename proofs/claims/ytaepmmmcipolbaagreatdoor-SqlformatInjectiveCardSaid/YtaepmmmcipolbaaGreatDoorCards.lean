/-
  DERIVED. GIVEN WITH THE SEED: THE CARDS: each row of YtaepmmmcipolbaaGreatDoorRows.lean that lists a variable, with what it lists TIED to the program's text (the seventh form; the later family's looks); each row that meets fmt, with fmt's text TOLD by the authors' own Lean function (tested against real Go, not proved from fmt's source: count such statements apart). THE CARD IS WHAT COUNTS. Prove the row's statement (the work); the ties are given (YtaepmmmcipolbaaGreatDoorTie.lean); close each card by the builder's one call (the guide's Derived/Test/ToyasCard.lean, 'card_holds'). Laid BY PROGRAM, IN A SANDBOX (cutbox-door.mjs). By AI agents, Wed Nov 11 2026. No macro, syntax, notation, axiom, sorry.
-/
import Derived.Test.YtaepmmmcipolbaaGreatDoorRows
import GoSem.ClaimSeven
namespace Go.Proofs.YtaepmmmcipolbaaGreatDoor
namespace Rows

/-- THE TIED CARD OF 'lineagelaw24.SqlformatExprs'. -/
def sqlformatExprsCard : Claim7 := { stood := { row := sqlformatExprsRow, standIns := [], harness := (true, "34e3c00f988c8c688312a628b1684fa118ba3510191319aa8e16edc9671fa769"), looks := false }, kinds := [], alts := [], laidByText := true, laidKinds := [.data, .data, .data, .data, .listed, .data, .data, .data, .data, .data, .pinned], laidTests := true, laidLooks := .later }
def SqlformatExprsCardSaid : Prop := Claim7.holds Tryz.pinned (.plain (OpenSpec.ofChange sqlformatExprsSpec)) sqlformatExprsCard

/-- THE TIED CARD OF 'lineagelaw24.SqlformatQueries'. -/
def sqlformatQueriesCard : Claim7 := { stood := { row := sqlformatQueriesRow, standIns := [], harness := (true, "34e3c00f988c8c688312a628b1684fa118ba3510191319aa8e16edc9671fa769"), looks := false }, kinds := [], alts := [], laidByText := true, laidKinds := [.data, .data, .data, .data, .listed, .data, .data, .data, .data, .data, .pinned], laidTests := true, laidLooks := .later }
def SqlformatQueriesCardSaid : Prop := Claim7.holds Tryz.pinned (.plain (OpenSpec.ofChange sqlformatQueriesSpec)) sqlformatQueriesCard

/-- THE TIED CARD OF 'lineagelaw24.SqlformatInjective'. -/
def sqlformatInjectiveCard : Claim7 := { stood := { row := sqlformatInjectiveRow, standIns := [], harness := (true, "34e3c00f988c8c688312a628b1684fa118ba3510191319aa8e16edc9671fa769"), looks := false }, kinds := [], alts := [], laidByText := true, laidKinds := [.data, .data, .data, .data, .listed, .data, .data, .data, .data, .data, .pinned], laidTests := true, laidLooks := .later }
def SqlformatInjectiveCardSaid : Prop := Claim7.holds Tryz.pinned (.plain (OpenSpec.ofChange sqlformatInjectiveSpec)) sqlformatInjectiveCard

/-- THE TIED CARD OF 'lineagelaw24.SqlformatParentheses'. -/
def sqlformatParenthesesCard : Claim7 := { stood := { row := sqlformatParenthesesRow, standIns := [], harness := (true, "34e3c00f988c8c688312a628b1684fa118ba3510191319aa8e16edc9671fa769"), looks := false }, kinds := [], alts := [], laidByText := true, laidKinds := [.data, .data, .data, .data, .listed, .data, .data, .data, .data, .data, .pinned], laidTests := true, laidLooks := .later }
def SqlformatParenthesesCardSaid : Prop := Claim7.holds Tryz.pinned (.plain (OpenSpec.ofChange sqlformatParenthesesSpec)) sqlformatParenthesesCard

/-- THE TIED CARD OF 'lineagelaw24.SqlformatSpoiled'. -/
def sqlformatSpoiledCard : Claim7 := { stood := { row := sqlformatSpoiledRow, standIns := [], harness := (true, "34e3c00f988c8c688312a628b1684fa118ba3510191319aa8e16edc9671fa769"), looks := false }, kinds := [], alts := [], laidByText := true, laidKinds := [.data, .data, .data, .data, .listed, .data, .data, .data, .data, .data, .pinned], laidTests := true, laidLooks := .later }
def SqlformatSpoiledCardSaid : Prop := Claim7.holds Tryz.pinned (.plain (OpenSpec.ofChange sqlformatSpoiledSpec)) sqlformatSpoiledCard

/-- THE TIED CARD OF 'lineagelaw24.SqlformatEquals'. -/
def sqlformatEqualsCard : Claim7 := { stood := { row := sqlformatEqualsRow, standIns := [], harness := (true, "34e3c00f988c8c688312a628b1684fa118ba3510191319aa8e16edc9671fa769"), looks := false }, kinds := [], alts := [], laidByText := true, laidKinds := [.data, .data, .data, .data, .listed, .data, .data, .data, .data, .data, .pinned], laidTests := true, laidLooks := .later }
def SqlformatEqualsCardSaid : Prop := Claim7.holds Tryz.pinned (.plain (OpenSpec.ofChange sqlformatEqualsSpec)) sqlformatEqualsCard

/-- THE TIED CARD OF 'lineagelaw24.SqlformatStatements'. -/
def sqlformatStatementsCard : Claim7 := { stood := { row := sqlformatStatementsRow, standIns := [], harness := (true, "34e3c00f988c8c688312a628b1684fa118ba3510191319aa8e16edc9671fa769"), looks := false }, kinds := [], alts := [], laidByText := true, laidKinds := [.data, .data, .data, .data, .listed, .data, .data, .data, .data, .data, .pinned], laidTests := true, laidLooks := .later }
def SqlformatStatementsCardSaid : Prop := Claim7.holds Tryz.pinned (.plain (OpenSpec.ofChange sqlformatStatementsSpec)) sqlformatStatementsCard

/-- THE SECOND FORM's CARD OF 'lineagelaw24.SqlformatExprs'. -/
def sqlformatExprsUptoCard : Claim7 := { stood := { row := sqlformatExprsUptoRow, standIns := [], harness := (true, "34e3c00f988c8c688312a628b1684fa118ba3510191319aa8e16edc9671fa769"), looks := false }, kinds := [], alts := [], laidByText := true, laidKinds := [.data, .data, .data, .data, .listed, .data, .data, .data, .data, .data, .pinned], laidTests := true, laidLooks := .later }
def SqlformatExprsUptoCardSaid : Prop := Claim7.holds Tryz.pinned (.plain (OpenSpec.upto sqlformatExprsSpec)) sqlformatExprsUptoCard

/-- THE SECOND FORM's CARD OF 'lineagelaw24.SqlformatQueries'. -/
def sqlformatQueriesUptoCard : Claim7 := { stood := { row := sqlformatQueriesUptoRow, standIns := [], harness := (true, "34e3c00f988c8c688312a628b1684fa118ba3510191319aa8e16edc9671fa769"), looks := false }, kinds := [], alts := [], laidByText := true, laidKinds := [.data, .data, .data, .data, .listed, .data, .data, .data, .data, .data, .pinned], laidTests := true, laidLooks := .later }
def SqlformatQueriesUptoCardSaid : Prop := Claim7.holds Tryz.pinned (.plain (OpenSpec.upto sqlformatQueriesSpec)) sqlformatQueriesUptoCard

/-- THE SECOND FORM's CARD OF 'lineagelaw24.SqlformatInjective'. -/
def sqlformatInjectiveUptoCard : Claim7 := { stood := { row := sqlformatInjectiveUptoRow, standIns := [], harness := (true, "34e3c00f988c8c688312a628b1684fa118ba3510191319aa8e16edc9671fa769"), looks := false }, kinds := [], alts := [], laidByText := true, laidKinds := [.data, .data, .data, .data, .listed, .data, .data, .data, .data, .data, .pinned], laidTests := true, laidLooks := .later }
def SqlformatInjectiveUptoCardSaid : Prop := Claim7.holds Tryz.pinned (.plain (OpenSpec.upto sqlformatInjectiveSpec)) sqlformatInjectiveUptoCard

/-- THE SECOND FORM's CARD OF 'lineagelaw24.SqlformatParentheses'. -/
def sqlformatParenthesesUptoCard : Claim7 := { stood := { row := sqlformatParenthesesUptoRow, standIns := [], harness := (true, "34e3c00f988c8c688312a628b1684fa118ba3510191319aa8e16edc9671fa769"), looks := false }, kinds := [], alts := [], laidByText := true, laidKinds := [.data, .data, .data, .data, .listed, .data, .data, .data, .data, .data, .pinned], laidTests := true, laidLooks := .later }
def SqlformatParenthesesUptoCardSaid : Prop := Claim7.holds Tryz.pinned (.plain (OpenSpec.upto sqlformatParenthesesSpec)) sqlformatParenthesesUptoCard

/-- THE SECOND FORM's CARD OF 'lineagelaw24.SqlformatSpoiled'. -/
def sqlformatSpoiledUptoCard : Claim7 := { stood := { row := sqlformatSpoiledUptoRow, standIns := [], harness := (true, "34e3c00f988c8c688312a628b1684fa118ba3510191319aa8e16edc9671fa769"), looks := false }, kinds := [], alts := [], laidByText := true, laidKinds := [.data, .data, .data, .data, .listed, .data, .data, .data, .data, .data, .pinned], laidTests := true, laidLooks := .later }
def SqlformatSpoiledUptoCardSaid : Prop := Claim7.holds Tryz.pinned (.plain (OpenSpec.upto sqlformatSpoiledSpec)) sqlformatSpoiledUptoCard

/-- THE SECOND FORM's CARD OF 'lineagelaw24.SqlformatEquals'. -/
def sqlformatEqualsUptoCard : Claim7 := { stood := { row := sqlformatEqualsUptoRow, standIns := [], harness := (true, "34e3c00f988c8c688312a628b1684fa118ba3510191319aa8e16edc9671fa769"), looks := false }, kinds := [], alts := [], laidByText := true, laidKinds := [.data, .data, .data, .data, .listed, .data, .data, .data, .data, .data, .pinned], laidTests := true, laidLooks := .later }
def SqlformatEqualsUptoCardSaid : Prop := Claim7.holds Tryz.pinned (.plain (OpenSpec.upto sqlformatEqualsSpec)) sqlformatEqualsUptoCard

/-- THE SECOND FORM's CARD OF 'lineagelaw24.SqlformatStatements'. -/
def sqlformatStatementsUptoCard : Claim7 := { stood := { row := sqlformatStatementsUptoRow, standIns := [], harness := (true, "34e3c00f988c8c688312a628b1684fa118ba3510191319aa8e16edc9671fa769"), looks := false }, kinds := [], alts := [], laidByText := true, laidKinds := [.data, .data, .data, .data, .listed, .data, .data, .data, .data, .data, .pinned], laidTests := true, laidLooks := .later }
def SqlformatStatementsUptoCardSaid : Prop := Claim7.holds Tryz.pinned (.plain (OpenSpec.upto sqlformatStatementsSpec)) sqlformatStatementsUptoCard
end Rows
end Go.Proofs.YtaepmmmcipolbaaGreatDoor
