/-
  No cell of these rows narrows 'for every input' (looked for: loops, veiled, ifaces, maps, wideKeys, modest, calm, conditions, laid).
  DERIVED. THE GIVEN ROWS OF THIS SEAT. 2 by the template 'for every input the law returns true; each argument reads behind the call as it read before'; 0 by the template 'total and deterministic' (their statements: YtfgkhgkgaedcmaaGreatTotals.lean).
  GIVEN WITH THE SEED: the statements are not yours to turn. If you find one false, say at which input.
  Laid BY PROGRAM, IN A SANDBOX (cutbox-rows.mjs): the forced cells as the released guide's own fill.sh prints them over the translation 724e613940dd18b6… (all of the seat's roots in one cut). By AI agents, Wed Nov 11 2026. No macro, syntax, notation, axiom, sorry.
-/
import Derived.Test.YtfgkhgkgaedcmaaGreatChecked
import GoSem.Claim
import GoSem.ClaimJoined
import GoSem.ClaimMapViews
import Derived.JoinedTies
import Derived.KernelRfl
namespace Go.Proofs.YtfgkhgkgaedcmaaGreat
/- THE CELL 'sum', in the pinned program and in every row, IS THE sha256 OF THE DUMP (.gsa) THAT YtfgkhgkgaedcmaaGreatProg.lean LOADS. Nothing in Lean hashes anything: it is a label: what it is worth is what the hold of that sum in a sandbox is worth. -/
noncomputable def Tryz.pinned : Pinned := { name := "ytfgkhgkgaedcmaagreat", sum := "724e613940dd18b63bb3b5cfdadf3881d5e080a488e8c0faa99a566a3bdf521f", checked := Tryz.checked }
namespace Rows
def none {H : Type} : Left H := { results := [], args := [] }

/-- 'lineagelaw19.CatalogEncode': WHATEVER THE INPUT: true; the input reads as it did. -/
def catalogEncodeSpec : ChangeSpec := { name := "catalogEncode", fn := fun _ => fun
  | [d] => { results := [.lit (.bool true)], args := [d] }
  | _ => none }
def catalogEncodeRow : OpenClaim := { program := "ytfgkhgkgaedcmaagreat", sum := "724e613940dd18b63bb3b5cfdadf3881d5e080a488e8c0faa99a566a3bdf521f", func := "lineage/lineagelaw19.CatalogEncode", spec := "catalogEncode", inPlace := ["internal/abi.NoEscape", "internal/bytealg.MakeNoZero"], unfollowed := true, recurses := true, apart := false }
def CatalogEncodeSaid : Prop := catalogEncodeRow.holds Tryz.pinned (OpenSpec.ofChange catalogEncodeSpec)

/-- ITS FALSE NEIGHBOUR: 'it returns false'. Refute it at one input. -/
def catalogEncodeWrong : ChangeSpec := { name := "catalogEncode", fn := fun _ => fun
  | [d] => { results := [.lit (.bool false)], args := [d] }
  | _ => none }
def CatalogEncodeWrongFalsely : Prop := catalogEncodeRow.holds Tryz.pinned (OpenSpec.ofChange catalogEncodeWrong)

/-- 'lineagelaw19.CatalogDecode': WHATEVER THE INPUT: true; the input reads as it did. -/
def catalogDecodeSpec : ChangeSpec := { name := "catalogDecode", fn := fun _ => fun
  | [d] => { results := [.lit (.bool true)], args := [d] }
  | _ => none }
def catalogDecodeRow : OpenClaim := { program := "ytfgkhgkgaedcmaagreat", sum := "724e613940dd18b63bb3b5cfdadf3881d5e080a488e8c0faa99a566a3bdf521f", func := "lineage/lineagelaw19.CatalogDecode", spec := "catalogDecode", inPlace := ["internal/abi.NoEscape", "internal/bytealg.MakeNoZero"], unfollowed := true, recurses := true, apart := false }
def CatalogDecodeSaid : Prop := catalogDecodeRow.holds Tryz.pinned (OpenSpec.ofChange catalogDecodeSpec)

/-- ITS FALSE NEIGHBOUR: 'it returns false'. Refute it at one input. -/
def catalogDecodeWrong : ChangeSpec := { name := "catalogDecode", fn := fun _ => fun
  | [d] => { results := [.lit (.bool false)], args := [d] }
  | _ => none }
def CatalogDecodeWrongFalsely : Prop := catalogDecodeRow.holds Tryz.pinned (OpenSpec.ofChange catalogDecodeWrong)

/- THE SECOND FORM. 'bulk': how many values and letters a reading holds, each counted each time it is reached (what is shared counts as often as it is met; a slice's spare places count too). A statement '..UptoSaid' is the law's where the arguments, and the package variables that the reading takes, are together of bulk at most 1048576: NARROWER than '..Said'. Prove '..Said' where nothing that the law and all that it calls make is longer than what came in: it says more and counts as full. Else prove '..UptoSaid'. A law counts once. -/
mutual
def uptoBulk {H : Type} : DataW H → Nat
  | .lit (.string bytes) => bytes.length + 1
  | .lit _ => 1
  | .nil => 1
  | .ptr d => uptoBulk d + 1
  | .slice elems spare => uptoBulkAll elems + uptoBulkAll spare + 1
  | .agg parts => uptoBulkAll parts + 1
  | .iface _ d => uptoBulk d + 1
  | .map entries => uptoBulkEntries entries + 1
  | .held _ => 1
def uptoBulkAll {H : Type} : List (DataW H) → Nat
  | [] => 0
  | d :: r => uptoBulk d + uptoBulkAll r
def uptoBulkEntries {H : Type} : List (Lit × DataW H) → Nat
  | [] => 0
  | x :: r => uptoBulkEntry x + uptoBulkEntries r
def uptoBulkEntry {H : Type} : Lit × DataW H → Nat
  | (.string bytes, d) => bytes.length + uptoBulk d + 1
  | (_, d) => uptoBulk d + 1
 end
def uptoSmall : (H : Type) → List (DataW H) → Bool := fun _ ds => decide (uptoBulkAll ds ≤ 1048576)
def OpenSpec.upto (s : _root_.Go.ChangeSpec) : _root_.Go.OpenSpec := { _root_.Go.OpenSpec.ofChange s with cond := some uptoSmall }

/-- 'lineagelaw19.CatalogEncode', WHERE WHAT IT READS IS OF BULK AT MOST 1048576: true; the input reads as it did. -/
def catalogEncodeUptoRow : OpenClaim := { program := "ytfgkhgkgaedcmaagreat", sum := "724e613940dd18b63bb3b5cfdadf3881d5e080a488e8c0faa99a566a3bdf521f", func := "lineage/lineagelaw19.CatalogEncode", spec := "catalogEncode", inPlace := ["internal/abi.NoEscape", "internal/bytealg.MakeNoZero"], unfollowed := true, recurses := true, apart := false, narrowed := true }
def CatalogEncodeUptoSaid : Prop := catalogEncodeUptoRow.holds Tryz.pinned (OpenSpec.upto catalogEncodeSpec)

/-- 'lineagelaw19.CatalogDecode', WHERE WHAT IT READS IS OF BULK AT MOST 1048576: true; the input reads as it did. -/
def catalogDecodeUptoRow : OpenClaim := { program := "ytfgkhgkgaedcmaagreat", sum := "724e613940dd18b63bb3b5cfdadf3881d5e080a488e8c0faa99a566a3bdf521f", func := "lineage/lineagelaw19.CatalogDecode", spec := "catalogDecode", inPlace := ["internal/abi.NoEscape", "internal/bytealg.MakeNoZero"], unfollowed := true, recurses := true, apart := false, narrowed := true }
def CatalogDecodeUptoSaid : Prop := catalogDecodeUptoRow.holds Tryz.pinned (OpenSpec.upto catalogDecodeSpec)

end Rows
end Go.Proofs.YtfgkhgkgaedcmaaGreat
