/-
  No cell of these rows narrows 'for every input' (looked for: loops, veiled, ifaces, maps, wideKeys, modest, calm, conditions, laid).
  DERIVED. THE GIVEN ROWS OF THIS SEAT. 6 by the template 'for every input the law returns true; each argument reads behind the call as it read before'; 0 by the template 'total and deterministic' (their statements: YtfgkhgkgaedcmaaTotals.lean).
  GIVEN WITH THE SEED: the statements are not yours to turn. If you find one false, say at which input.
  Laid BY PROGRAM, IN A SANDBOX (cutbox-rows.mjs): the forced cells as the released guide's own fill.sh prints them over the translation 5b5e3713a3af0ef8… (all of the seat's roots in one cut). By AI agents, Wed Nov 11 2026. No macro, syntax, notation, axiom, sorry.
-/
import Derived.Test.YtfgkhgkgaedcmaaChecked
import GoSem.Claim
import GoSem.ClaimJoined
import GoSem.ClaimMapViews
import Derived.JoinedTies
import Derived.KernelRfl
namespace Go.Proofs.Ytfgkhgkgaedcmaa
/- THE CELL 'sum', in the pinned program and in every row, IS THE sha256 OF THE DUMP (.gsa) THAT YtfgkhgkgaedcmaaProg.lean LOADS. Nothing in Lean hashes anything: it is a label: what it is worth is what the hold of that sum in a sandbox is worth. -/
noncomputable def Try.pinned : Pinned := { name := "ytfgkhgkgaedcmaa", sum := "5b5e3713a3af0ef8ed33e1a986725f3fda169ab680730597dab779a04f39c20f", checked := Try.checked }
namespace Rows
def none {H : Type} : Left H := { results := [], args := [] }

/-- 'lineagelaw19.CatalogValid': WHATEVER THE INPUT: true; the input reads as it did. -/
def catalogValidSpec : ChangeSpec := { name := "catalogValid", fn := fun _ => fun
  | [d1, d2] => { results := [.lit (.bool true)], args := [d1, d2] }
  | _ => none }
def catalogValidRow : OpenClaim := { program := "ytfgkhgkgaedcmaa", sum := "5b5e3713a3af0ef8ed33e1a986725f3fda169ab680730597dab779a04f39c20f", func := "lineage/lineagelaw19.CatalogValid", spec := "catalogValid", inPlace := ["internal/abi.NoEscape", "internal/bytealg.MakeNoZero"], unfollowed := true, recurses := true, apart := false }
def CatalogValidSaid : Prop := catalogValidRow.holds Try.pinned (OpenSpec.ofChange catalogValidSpec)

/-- ITS FALSE NEIGHBOUR: 'it returns false'. Refute it at one input. -/
def catalogValidWrong : ChangeSpec := { name := "catalogValid", fn := fun _ => fun
  | [d1, d2] => { results := [.lit (.bool false)], args := [d1, d2] }
  | _ => none }
def CatalogValidWrongFalsely : Prop := catalogValidRow.holds Try.pinned (OpenSpec.ofChange catalogValidWrong)

/-- 'lineagelaw19.CatalogLookup': WHATEVER THE INPUT: true; the input reads as it did. -/
def catalogLookupSpec : ChangeSpec := { name := "catalogLookup", fn := fun _ => fun
  | [d1, d2, d3] => { results := [.lit (.bool true)], args := [d1, d2, d3] }
  | _ => none }
def catalogLookupRow : OpenClaim := { program := "ytfgkhgkgaedcmaa", sum := "5b5e3713a3af0ef8ed33e1a986725f3fda169ab680730597dab779a04f39c20f", func := "lineage/lineagelaw19.CatalogLookup", spec := "catalogLookup", inPlace := ["internal/abi.NoEscape", "internal/bytealg.MakeNoZero"], unfollowed := true, recurses := true, apart := false }
def CatalogLookupSaid : Prop := catalogLookupRow.holds Try.pinned (OpenSpec.ofChange catalogLookupSpec)

/-- ITS FALSE NEIGHBOUR: 'it returns false'. Refute it at one input. -/
def catalogLookupWrong : ChangeSpec := { name := "catalogLookup", fn := fun _ => fun
  | [d1, d2, d3] => { results := [.lit (.bool false)], args := [d1, d2, d3] }
  | _ => none }
def CatalogLookupWrongFalsely : Prop := catalogLookupRow.holds Try.pinned (OpenSpec.ofChange catalogLookupWrong)

/-- 'lineagelaw19.CatalogOperations': WHATEVER THE INPUT: true; the input reads as it did. -/
def catalogOperationsSpec : ChangeSpec := { name := "catalogOperations", fn := fun _ => fun
  | [d1, d2] => { results := [.lit (.bool true)], args := [d1, d2] }
  | _ => none }
def catalogOperationsRow : OpenClaim := { program := "ytfgkhgkgaedcmaa", sum := "5b5e3713a3af0ef8ed33e1a986725f3fda169ab680730597dab779a04f39c20f", func := "lineage/lineagelaw19.CatalogOperations", spec := "catalogOperations", inPlace := ["internal/abi.NoEscape", "internal/bytealg.MakeNoZero"], unfollowed := true, recurses := true, apart := false }
def CatalogOperationsSaid : Prop := catalogOperationsRow.holds Try.pinned (OpenSpec.ofChange catalogOperationsSpec)

/-- ITS FALSE NEIGHBOUR: 'it returns false'. Refute it at one input. -/
def catalogOperationsWrong : ChangeSpec := { name := "catalogOperations", fn := fun _ => fun
  | [d1, d2] => { results := [.lit (.bool false)], args := [d1, d2] }
  | _ => none }
def CatalogOperationsWrongFalsely : Prop := catalogOperationsRow.holds Try.pinned (OpenSpec.ofChange catalogOperationsWrong)

/-- 'lineagelaw19.CatalogGrows': WHATEVER THE INPUT: true; the input reads as it did. -/
def catalogGrowsSpec : ChangeSpec := { name := "catalogGrows", fn := fun _ => fun
  | [d] => { results := [.lit (.bool true)], args := [d] }
  | _ => none }
def catalogGrowsRow : OpenClaim := { program := "ytfgkhgkgaedcmaa", sum := "5b5e3713a3af0ef8ed33e1a986725f3fda169ab680730597dab779a04f39c20f", func := "lineage/lineagelaw19.CatalogGrows", spec := "catalogGrows", inPlace := ["internal/abi.NoEscape", "internal/bytealg.MakeNoZero"], unfollowed := true, recurses := true, apart := false }
def CatalogGrowsSaid : Prop := catalogGrowsRow.holds Try.pinned (OpenSpec.ofChange catalogGrowsSpec)

/-- ITS FALSE NEIGHBOUR: 'it returns false'. Refute it at one input. -/
def catalogGrowsWrong : ChangeSpec := { name := "catalogGrows", fn := fun _ => fun
  | [d] => { results := [.lit (.bool false)], args := [d] }
  | _ => none }
def CatalogGrowsWrongFalsely : Prop := catalogGrowsRow.holds Try.pinned (OpenSpec.ofChange catalogGrowsWrong)

/-- 'lineagelaw19.CatalogMemory': WHATEVER THE INPUT: true; the input reads as it did. -/
def catalogMemorySpec : ChangeSpec := { name := "catalogMemory", fn := fun _ => fun
  | [d1, d2] => { results := [.lit (.bool true)], args := [d1, d2] }
  | _ => none }
def catalogMemoryRow : OpenClaim := { program := "ytfgkhgkgaedcmaa", sum := "5b5e3713a3af0ef8ed33e1a986725f3fda169ab680730597dab779a04f39c20f", func := "lineage/lineagelaw19.CatalogMemory", spec := "catalogMemory", inPlace := ["internal/abi.NoEscape", "internal/bytealg.MakeNoZero"], unfollowed := true, recurses := true, apart := false }
def CatalogMemorySaid : Prop := catalogMemoryRow.holds Try.pinned (OpenSpec.ofChange catalogMemorySpec)

/-- ITS FALSE NEIGHBOUR: 'it returns false'. Refute it at one input. -/
def catalogMemoryWrong : ChangeSpec := { name := "catalogMemory", fn := fun _ => fun
  | [d1, d2] => { results := [.lit (.bool false)], args := [d1, d2] }
  | _ => none }
def CatalogMemoryWrongFalsely : Prop := catalogMemoryRow.holds Try.pinned (OpenSpec.ofChange catalogMemoryWrong)

/-- 'lineagelaw19.CatalogNames': WHATEVER THE INPUT: true; the input reads as it did. -/
def catalogNamesSpec : ChangeSpec := { name := "catalogNames", fn := fun _ => fun
  | [d1, d2] => { results := [.lit (.bool true)], args := [d1, d2] }
  | _ => none }
def catalogNamesRow : OpenClaim := { program := "ytfgkhgkgaedcmaa", sum := "5b5e3713a3af0ef8ed33e1a986725f3fda169ab680730597dab779a04f39c20f", func := "lineage/lineagelaw19.CatalogNames", spec := "catalogNames", inPlace := ["internal/abi.NoEscape", "internal/bytealg.MakeNoZero"], unfollowed := true, recurses := true, apart := false }
def CatalogNamesSaid : Prop := catalogNamesRow.holds Try.pinned (OpenSpec.ofChange catalogNamesSpec)

/-- ITS FALSE NEIGHBOUR: 'it returns false'. Refute it at one input. -/
def catalogNamesWrong : ChangeSpec := { name := "catalogNames", fn := fun _ => fun
  | [d1, d2] => { results := [.lit (.bool false)], args := [d1, d2] }
  | _ => none }
def CatalogNamesWrongFalsely : Prop := catalogNamesRow.holds Try.pinned (OpenSpec.ofChange catalogNamesWrong)

/- THE SECOND FORM. 'bulk': how many values and letters a reading holds, each counted each time it is reached (what is shared counts as often as it is met; a slice's spare places count too). A statement '..UptoSaid' is the law's where the arguments, and the package variables that the reading takes, are together of bulk at most 1048576: NARROWER than '..Said'. Prove '..Said' where nothing that the law and all that it calls make is longer than what came in: it says more and counts as full. Else prove '..UptoSaid'. A law counts once. -/
mutual
def uptoBulk {H : Type} : DataW H → Nat
  | .lit (.string bytes) => bytes.length + 1
  | .lit _ => 1
  | .nil => 1
  | .ptr d => uptoBulk d + 1
  | .slice elems spare => uptoBulkAll elems + uptoBulkAll spare + 1
  | .agg parts => uptoBulkAll parts + 1
  | .iface _ d => uptoBulk d + 1
  | .map entries => uptoBulkEntries entries + 1
  | .held _ => 1
def uptoBulkAll {H : Type} : List (DataW H) → Nat
  | [] => 0
  | d :: r => uptoBulk d + uptoBulkAll r
def uptoBulkEntries {H : Type} : List (Lit × DataW H) → Nat
  | [] => 0
  | x :: r => uptoBulkEntry x + uptoBulkEntries r
def uptoBulkEntry {H : Type} : Lit × DataW H → Nat
  | (.string bytes, d) => bytes.length + uptoBulk d + 1
  | (_, d) => uptoBulk d + 1
 end
def uptoSmall : (H : Type) → List (DataW H) → Bool := fun _ ds => decide (uptoBulkAll ds ≤ 1048576)
def OpenSpec.upto (s : _root_.Go.ChangeSpec) : _root_.Go.OpenSpec := { _root_.Go.OpenSpec.ofChange s with cond := some uptoSmall }

/-- 'lineagelaw19.CatalogValid', WHERE WHAT IT READS IS OF BULK AT MOST 1048576: true; the input reads as it did. -/
def catalogValidUptoRow : OpenClaim := { program := "ytfgkhgkgaedcmaa", sum := "5b5e3713a3af0ef8ed33e1a986725f3fda169ab680730597dab779a04f39c20f", func := "lineage/lineagelaw19.CatalogValid", spec := "catalogValid", inPlace := ["internal/abi.NoEscape", "internal/bytealg.MakeNoZero"], unfollowed := true, recurses := true, apart := false, narrowed := true }
def CatalogValidUptoSaid : Prop := catalogValidUptoRow.holds Try.pinned (OpenSpec.upto catalogValidSpec)

/-- 'lineagelaw19.CatalogLookup', WHERE WHAT IT READS IS OF BULK AT MOST 1048576: true; the input reads as it did. -/
def catalogLookupUptoRow : OpenClaim := { program := "ytfgkhgkgaedcmaa", sum := "5b5e3713a3af0ef8ed33e1a986725f3fda169ab680730597dab779a04f39c20f", func := "lineage/lineagelaw19.CatalogLookup", spec := "catalogLookup", inPlace := ["internal/abi.NoEscape", "internal/bytealg.MakeNoZero"], unfollowed := true, recurses := true, apart := false, narrowed := true }
def CatalogLookupUptoSaid : Prop := catalogLookupUptoRow.holds Try.pinned (OpenSpec.upto catalogLookupSpec)

/-- 'lineagelaw19.CatalogOperations', WHERE WHAT IT READS IS OF BULK AT MOST 1048576: true; the input reads as it did. -/
def catalogOperationsUptoRow : OpenClaim := { program := "ytfgkhgkgaedcmaa", sum := "5b5e3713a3af0ef8ed33e1a986725f3fda169ab680730597dab779a04f39c20f", func := "lineage/lineagelaw19.CatalogOperations", spec := "catalogOperations", inPlace := ["internal/abi.NoEscape", "internal/bytealg.MakeNoZero"], unfollowed := true, recurses := true, apart := false, narrowed := true }
def CatalogOperationsUptoSaid : Prop := catalogOperationsUptoRow.holds Try.pinned (OpenSpec.upto catalogOperationsSpec)

/-- 'lineagelaw19.CatalogGrows', WHERE WHAT IT READS IS OF BULK AT MOST 1048576: true; the input reads as it did. -/
def catalogGrowsUptoRow : OpenClaim := { program := "ytfgkhgkgaedcmaa", sum := "5b5e3713a3af0ef8ed33e1a986725f3fda169ab680730597dab779a04f39c20f", func := "lineage/lineagelaw19.CatalogGrows", spec := "catalogGrows", inPlace := ["internal/abi.NoEscape", "internal/bytealg.MakeNoZero"], unfollowed := true, recurses := true, apart := false, narrowed := true }
def CatalogGrowsUptoSaid : Prop := catalogGrowsUptoRow.holds Try.pinned (OpenSpec.upto catalogGrowsSpec)

/-- 'lineagelaw19.CatalogMemory', WHERE WHAT IT READS IS OF BULK AT MOST 1048576: true; the input reads as it did. -/
def catalogMemoryUptoRow : OpenClaim := { program := "ytfgkhgkgaedcmaa", sum := "5b5e3713a3af0ef8ed33e1a986725f3fda169ab680730597dab779a04f39c20f", func := "lineage/lineagelaw19.CatalogMemory", spec := "catalogMemory", inPlace := ["internal/abi.NoEscape", "internal/bytealg.MakeNoZero"], unfollowed := true, recurses := true, apart := false, narrowed := true }
def CatalogMemoryUptoSaid : Prop := catalogMemoryUptoRow.holds Try.pinned (OpenSpec.upto catalogMemorySpec)

/-- 'lineagelaw19.CatalogNames', WHERE WHAT IT READS IS OF BULK AT MOST 1048576: true; the input reads as it did. -/
def catalogNamesUptoRow : OpenClaim := { program := "ytfgkhgkgaedcmaa", sum := "5b5e3713a3af0ef8ed33e1a986725f3fda169ab680730597dab779a04f39c20f", func := "lineage/lineagelaw19.CatalogNames", spec := "catalogNames", inPlace := ["internal/abi.NoEscape", "internal/bytealg.MakeNoZero"], unfollowed := true, recurses := true, apart := false, narrowed := true }
def CatalogNamesUptoSaid : Prop := catalogNamesUptoRow.holds Try.pinned (OpenSpec.upto catalogNamesSpec)

end Rows
end Go.Proofs.Ytfgkhgkgaedcmaa
