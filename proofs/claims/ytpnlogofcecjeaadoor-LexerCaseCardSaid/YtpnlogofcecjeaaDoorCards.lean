/-
  DERIVED. GIVEN WITH THE SEED: THE CARDS: each row of YtpnlogofcecjeaaDoorRows.lean that lists a variable, with what it lists TIED to the program's text (the seventh form; the later family's looks); each row that meets fmt, with fmt's text TOLD by the authors' own Lean function (tested against real Go, not proved from fmt's source: count such statements apart). THE CARD IS WHAT COUNTS. Prove the row's statement (the work); the ties are given (YtpnlogofcecjeaaDoorTie.lean); close each card by the builder's one call (the guide's Derived/Test/ToyasCard.lean, 'card_holds'). Laid BY PROGRAM, IN A SANDBOX (cutbox-door.mjs). By AI agents, Wed Nov 11 2026. No macro, syntax, notation, axiom, sorry.
-/
import Derived.Test.YtpnlogofcecjeaaDoorRows
import GoSem.ClaimSeven
namespace Go.Proofs.YtpnlogofcecjeaaDoor
namespace Rows

/-- THE TIED CARD OF 'lineagelaw23.LexerSpace'. -/
def lexerSpaceCard : Claim7 := { stood := { row := lexerSpaceRow, standIns := [], harness := (true, "fdbf176837e903cd1d3bda5e842365e1e4d001d8ee3a968da76a50728e3ea696"), looks := true }, kinds := [], alts := [], laidByText := true, laidKinds := [.data, .data, .data, .data, .sentinel, .sentinel, .listed, .data, .pinned], laidTests := true, laidLooks := .later }
def LexerSpaceCardSaid : Prop := Claim7.holds Tryd.pinned (.plain (OpenSpec.ofChange lexerSpaceSpec)) lexerSpaceCard

/-- THE TIED CARD OF 'lineagelaw23.LexerCase'. -/
def lexerCaseCard : Claim7 := { stood := { row := lexerCaseRow, standIns := [], harness := (true, "fdbf176837e903cd1d3bda5e842365e1e4d001d8ee3a968da76a50728e3ea696"), looks := true }, kinds := [], alts := [], laidByText := true, laidKinds := [.data, .data, .data, .data, .sentinel, .sentinel, .listed, .data, .pinned], laidTests := true, laidLooks := .later }
def LexerCaseCardSaid : Prop := Claim7.holds Tryd.pinned (.plain (OpenSpec.ofChange lexerCaseSpec)) lexerCaseCard

/-- THE TIED CARD OF 'lineagelaw23.LexerErrors'. -/
def lexerErrorsCard : Claim7 := { stood := { row := lexerErrorsRow, standIns := [], harness := (true, "fdbf176837e903cd1d3bda5e842365e1e4d001d8ee3a968da76a50728e3ea696"), looks := true }, kinds := [], alts := [], laidByText := true, laidKinds := [.data, .data, .data, .data, .sentinel, .sentinel, .listed, .data, .pinned], laidTests := true, laidLooks := .later }
def LexerErrorsCardSaid : Prop := Claim7.holds Tryd.pinned (.plain (OpenSpec.ofChange lexerErrorsSpec)) lexerErrorsCard

/-- THE SECOND FORM's CARD OF 'lineagelaw23.LexerSpace'. -/
def lexerSpaceUptoCard : Claim7 := { stood := { row := lexerSpaceUptoRow, standIns := [], harness := (true, "fdbf176837e903cd1d3bda5e842365e1e4d001d8ee3a968da76a50728e3ea696"), looks := true }, kinds := [], alts := [], laidByText := true, laidKinds := [.data, .data, .data, .data, .sentinel, .sentinel, .listed, .data, .pinned], laidTests := true, laidLooks := .later }
def LexerSpaceUptoCardSaid : Prop := Claim7.holds Tryd.pinned (.plain (OpenSpec.upto lexerSpaceSpec)) lexerSpaceUptoCard

/-- THE SECOND FORM's CARD OF 'lineagelaw23.LexerCase'. -/
def lexerCaseUptoCard : Claim7 := { stood := { row := lexerCaseUptoRow, standIns := [], harness := (true, "fdbf176837e903cd1d3bda5e842365e1e4d001d8ee3a968da76a50728e3ea696"), looks := true }, kinds := [], alts := [], laidByText := true, laidKinds := [.data, .data, .data, .data, .sentinel, .sentinel, .listed, .data, .pinned], laidTests := true, laidLooks := .later }
def LexerCaseUptoCardSaid : Prop := Claim7.holds Tryd.pinned (.plain (OpenSpec.upto lexerCaseSpec)) lexerCaseUptoCard

/-- THE SECOND FORM's CARD OF 'lineagelaw23.LexerErrors'. -/
def lexerErrorsUptoCard : Claim7 := { stood := { row := lexerErrorsUptoRow, standIns := [], harness := (true, "fdbf176837e903cd1d3bda5e842365e1e4d001d8ee3a968da76a50728e3ea696"), looks := true }, kinds := [], alts := [], laidByText := true, laidKinds := [.data, .data, .data, .data, .sentinel, .sentinel, .listed, .data, .pinned], laidTests := true, laidLooks := .later }
def LexerErrorsUptoCardSaid : Prop := Claim7.holds Tryd.pinned (.plain (OpenSpec.upto lexerErrorsSpec)) lexerErrorsUptoCard
end Rows
end Go.Proofs.YtpnlogofcecjeaaDoor
