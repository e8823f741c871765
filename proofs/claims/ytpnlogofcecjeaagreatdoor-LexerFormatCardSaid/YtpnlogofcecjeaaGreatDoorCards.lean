/-
  DERIVED. GIVEN WITH THE SEED: THE CARDS: each row of YtpnlogofcecjeaaGreatDoorRows.lean that lists a variable, with what it lists TIED to the program's text (the seventh form; the later family's looks); each row that meets fmt, with fmt's text TOLD by the authors' own Lean function (tested against real Go, not proved from fmt's source: count such statements apart). THE CARD IS WHAT COUNTS. Prove the row's statement (the work); the ties are given (YtpnlogofcecjeaaGreatDoorTie.lean); close each card by the builder's one call (the guide's Derived/Test/ToyasCard.lean, 'card_holds'). Laid BY PROGRAM, IN A SANDBOX (cutbox-door.mjs). By AI agents, Wed Nov 11 2026. No macro, syntax, notation, axiom, sorry.
-/
import Derived.Test.YtpnlogofcecjeaaGreatDoorRows
import GoSem.ClaimSeven
namespace Go.Proofs.YtpnlogofcecjeaaGreatDoor
namespace Rows

/-- THE TIED CARD OF 'lineagelaw23.LexerScan'. -/
def lexerScanCard : Claim7 := { stood := { row := lexerScanRow, standIns := [], harness := (true, "2d858f924785cbdd9a17f405d64abebb84fb2f4b372c9ab6d23ef2107ae821c1"), looks := true }, kinds := [], alts := [], laidByText := true, laidKinds := [.data, .data, .data, .data, .sentinel, .sentinel, .listed, .data, .pinned], laidTests := true, laidLooks := .later }
def LexerScanCardSaid : Prop := Claim7.holds Tryz.pinned (.plain (OpenSpec.ofChange lexerScanSpec)) lexerScanCard

/-- THE TIED CARD OF 'lineagelaw23.LexerOffsets'. -/
def lexerOffsetsCard : Claim7 := { stood := { row := lexerOffsetsRow, standIns := [], harness := (true, "2d858f924785cbdd9a17f405d64abebb84fb2f4b372c9ab6d23ef2107ae821c1"), looks := true }, kinds := [], alts := [], laidByText := true, laidKinds := [.data, .data, .data, .data, .sentinel, .sentinel, .listed, .data, .pinned], laidTests := true, laidLooks := .later }
def LexerOffsetsCardSaid : Prop := Claim7.holds Tryz.pinned (.plain (OpenSpec.ofChange lexerOffsetsSpec)) lexerOffsetsCard

/-- THE TIED CARD OF 'lineagelaw23.LexerQuote'. -/
def lexerQuoteCard : Claim7 := { stood := { row := lexerQuoteRow, standIns := [], harness := (true, "2d858f924785cbdd9a17f405d64abebb84fb2f4b372c9ab6d23ef2107ae821c1"), looks := true }, kinds := [], alts := [], laidByText := true, laidKinds := [.data, .data, .data, .data, .sentinel, .sentinel, .listed, .data, .pinned], laidTests := true, laidLooks := .later }
def LexerQuoteCardSaid : Prop := Claim7.holds Tryz.pinned (.plain (OpenSpec.ofChange lexerQuoteSpec)) lexerQuoteCard

/-- THE TIED CARD OF 'lineagelaw23.LexerKeywords'. -/
def lexerKeywordsCard : Claim7 := { stood := { row := lexerKeywordsRow, standIns := [], harness := (true, "2d858f924785cbdd9a17f405d64abebb84fb2f4b372c9ab6d23ef2107ae821c1"), looks := true }, kinds := [], alts := [], laidByText := true, laidKinds := [.data, .data, .data, .data, .sentinel, .sentinel, .listed, .data, .pinned], laidTests := true, laidLooks := .later }
def LexerKeywordsCardSaid : Prop := Claim7.holds Tryz.pinned (.plain (OpenSpec.ofChange lexerKeywordsSpec)) lexerKeywordsCard

/-- THE TIED CARD OF 'lineagelaw23.LexerFormat'. -/
def lexerFormatCard : Claim7 := { stood := { row := lexerFormatRow, standIns := [], harness := (true, "2d858f924785cbdd9a17f405d64abebb84fb2f4b372c9ab6d23ef2107ae821c1"), looks := true }, kinds := [], alts := [], laidByText := true, laidKinds := [.data, .data, .data, .data, .sentinel, .sentinel, .listed, .data, .pinned], laidTests := true, laidLooks := .later }
def LexerFormatCardSaid : Prop := Claim7.holds Tryz.pinned (.plain (OpenSpec.ofChange lexerFormatSpec)) lexerFormatCard

/-- THE SECOND FORM's CARD OF 'lineagelaw23.LexerScan'. -/
def lexerScanUptoCard : Claim7 := { stood := { row := lexerScanUptoRow, standIns := [], harness := (true, "2d858f924785cbdd9a17f405d64abebb84fb2f4b372c9ab6d23ef2107ae821c1"), looks := true }, kinds := [], alts := [], laidByText := true, laidKinds := [.data, .data, .data, .data, .sentinel, .sentinel, .listed, .data, .pinned], laidTests := true, laidLooks := .later }
def LexerScanUptoCardSaid : Prop := Claim7.holds Tryz.pinned (.plain (OpenSpec.upto lexerScanSpec)) lexerScanUptoCard

/-- THE SECOND FORM's CARD OF 'lineagelaw23.LexerOffsets'. -/
def lexerOffsetsUptoCard : Claim7 := { stood := { row := lexerOffsetsUptoRow, standIns := [], harness := (true, "2d858f924785cbdd9a17f405d64abebb84fb2f4b372c9ab6d23ef2107ae821c1"), looks := true }, kinds := [], alts := [], laidByText := true, laidKinds := [.data, .data, .data, .data, .sentinel, .sentinel, .listed, .data, .pinned], laidTests := true, laidLooks := .later }
def LexerOffsetsUptoCardSaid : Prop := Claim7.holds Tryz.pinned (.plain (OpenSpec.upto lexerOffsetsSpec)) lexerOffsetsUptoCard

/-- THE SECOND FORM's CARD OF 'lineagelaw23.LexerQuote'. -/
def lexerQuoteUptoCard : Claim7 := { stood := { row := lexerQuoteUptoRow, standIns := [], harness := (true, "2d858f924785cbdd9a17f405d64abebb84fb2f4b372c9ab6d23ef2107ae821c1"), looks := true }, kinds := [], alts := [], laidByText := true, laidKinds := [.data, .data, .data, .data, .sentinel, .sentinel, .listed, .data, .pinned], laidTests := true, laidLooks := .later }
def LexerQuoteUptoCardSaid : Prop := Claim7.holds Tryz.pinned (.plain (OpenSpec.upto lexerQuoteSpec)) lexerQuoteUptoCard

/-- THE SECOND FORM's CARD OF 'lineagelaw23.LexerKeywords'. -/
def lexerKeywordsUptoCard : Claim7 := { stood := { row := lexerKeywordsUptoRow, standIns := [], harness := (true, "2d858f924785cbdd9a17f405d64abebb84fb2f4b372c9ab6d23ef2107ae821c1"), looks := true }, kinds := [], alts := [], laidByText := true, laidKinds := [.data, .data, .data, .data, .sentinel, .sentinel, .listed, .data, .pinned], laidTests := true, laidLooks := .later }
def LexerKeywordsUptoCardSaid : Prop := Claim7.holds Tryz.pinned (.plain (OpenSpec.upto lexerKeywordsSpec)) lexerKeywordsUptoCard

/-- THE SECOND FORM's CARD OF 'lineagelaw23.LexerFormat'. -/
def lexerFormatUptoCard : Claim7 := { stood := { row := lexerFormatUptoRow, standIns := [], harness := (true, "2d858f924785cbdd9a17f405d64abebb84fb2f4b372c9ab6d23ef2107ae821c1"), looks := true }, kinds := [], alts := [], laidByText := true, laidKinds := [.data, .data, .data, .data, .sentinel, .sentinel, .listed, .data, .pinned], laidTests := true, laidLooks := .later }
def LexerFormatUptoCardSaid : Prop := Claim7.holds Tryz.pinned (.plain (OpenSpec.upto lexerFormatSpec)) lexerFormatUptoCard
end Rows
end Go.Proofs.YtpnlogofcecjeaaGreatDoor
