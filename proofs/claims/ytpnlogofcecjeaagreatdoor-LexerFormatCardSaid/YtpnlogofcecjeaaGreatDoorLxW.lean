/- Chapter 23: what the rows of this seat list. -/
import Derived.Test.YtpnlogofcecjeaaGreatDoorRows
namespace Go.Vm
open Go.Proofs Go.Proofs.YtpnlogofcecjeaaGreatDoor
abbrev laid23 : List (String × DataW Unit) := Rows.lexerScanRow.laid
end Go.Vm
