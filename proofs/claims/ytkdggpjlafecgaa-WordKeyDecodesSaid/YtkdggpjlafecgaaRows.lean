/-
  No cell of these rows narrows 'for every input' (looked for: loops, veiled, ifaces, maps, wideKeys, modest, calm, conditions, laid).
  DERIVED. THE GIVEN ROWS OF THIS SEAT. 11 by the template 'for every input the law returns true; each argument reads behind the call as it read before'; 0 by the template 'total and deterministic' (their statements: YtkdggpjlafecgaaTotals.lean).
  GIVEN WITH THE SEED: the statements are not yours to turn. If you find one false, say at which input.
  Laid BY PROGRAM, IN A SANDBOX (cutbox-rows.mjs): the forced cells as the released guide's own fill.sh prints them over the translation 74870fd7a42a2c80… (all of the seat's roots in one cut). By AI agents, Wed Nov 11 2026. No macro, syntax, notation, axiom, sorry.
-/
import Derived.Test.YtkdggpjlafecgaaChecked
import GoSem.Claim
import GoSem.ClaimJoined
import GoSem.ClaimMapViews
import Derived.JoinedTies
import Derived.KernelRfl
namespace Go.Proofs.Ytkdggpjlafecgaa
/- THE CELL 'sum', in the pinned program and in every row, IS THE sha256 OF THE DUMP (.gsa) THAT YtkdggpjlafecgaaProg.lean LOADS. Nothing in Lean hashes anything: it is a label: what it is worth is what the hold of that sum in a sandbox is worth. -/
noncomputable def Try.pinned : Pinned := { name := "ytkdggpjlafecgaa", sum := "74870fd7a42a2c80ef2a14b59338dd818ae696144464b806c7bc6135cd106d3a", checked := Try.checked }
namespace Rows
def none {H : Type} : Left H := { results := [], args := [] }

/-- 'versionmaplaw1.WordZigzagOrder': WHATEVER THE INPUT: true; the input reads as it did. -/
def wordZigzagOrderSpec : ChangeSpec := { name := "wordZigzagOrder", fn := fun _ => fun
  | [d1, d2] => { results := [.lit (.bool true)], args := [d1, d2] }
  | _ => none }
def wordZigzagOrderRow : OpenClaim := { program := "ytkdggpjlafecgaa", sum := "74870fd7a42a2c80ef2a14b59338dd818ae696144464b806c7bc6135cd106d3a", func := "versionmap/versionmaplaw1.WordZigzagOrder", spec := "wordZigzagOrder", apart := false }
def WordZigzagOrderSaid : Prop := wordZigzagOrderRow.holds Try.pinned (OpenSpec.ofChange wordZigzagOrderSpec)

/-- ITS FALSE NEIGHBOUR: 'it returns false'. Refute it at one input. -/
def wordZigzagOrderWrong : ChangeSpec := { name := "wordZigzagOrder", fn := fun _ => fun
  | [d1, d2] => { results := [.lit (.bool false)], args := [d1, d2] }
  | _ => none }
def WordZigzagOrderWrongFalsely : Prop := wordZigzagOrderRow.holds Try.pinned (OpenSpec.ofChange wordZigzagOrderWrong)

/-- 'versionmaplaw1.WordKeyOrder': WHATEVER THE INPUT: true; the input reads as it did. -/
def wordKeyOrderSpec : ChangeSpec := { name := "wordKeyOrder", fn := fun _ => fun
  | [d1, d2] => { results := [.lit (.bool true)], args := [d1, d2] }
  | _ => none }
def wordKeyOrderRow : OpenClaim := { program := "ytkdggpjlafecgaa", sum := "74870fd7a42a2c80ef2a14b59338dd818ae696144464b806c7bc6135cd106d3a", func := "versionmap/versionmaplaw1.WordKeyOrder", spec := "wordKeyOrder", apart := false }
def WordKeyOrderSaid : Prop := wordKeyOrderRow.holds Try.pinned (OpenSpec.ofChange wordKeyOrderSpec)

/-- ITS FALSE NEIGHBOUR: 'it returns false'. Refute it at one input. -/
def wordKeyOrderWrong : ChangeSpec := { name := "wordKeyOrder", fn := fun _ => fun
  | [d1, d2] => { results := [.lit (.bool false)], args := [d1, d2] }
  | _ => none }
def WordKeyOrderWrongFalsely : Prop := wordKeyOrderRow.holds Try.pinned (OpenSpec.ofChange wordKeyOrderWrong)

/-- 'versionmaplaw1.WordLog2Bounds': WHATEVER THE INPUT: true; the input reads as it did. -/
def wordLog2BoundsSpec : ChangeSpec := { name := "wordLog2Bounds", fn := fun _ => fun
  | [d] => { results := [.lit (.bool true)], args := [d] }
  | _ => none }
def wordLog2BoundsRow : OpenClaim := { program := "ytkdggpjlafecgaa", sum := "74870fd7a42a2c80ef2a14b59338dd818ae696144464b806c7bc6135cd106d3a", func := "versionmap/versionmaplaw1.WordLog2Bounds", spec := "wordLog2Bounds", apart := false }
def WordLog2BoundsSaid : Prop := wordLog2BoundsRow.holds Try.pinned (OpenSpec.ofChange wordLog2BoundsSpec)

/-- ITS FALSE NEIGHBOUR: 'it returns false'. Refute it at one input. -/
def wordLog2BoundsWrong : ChangeSpec := { name := "wordLog2Bounds", fn := fun _ => fun
  | [d] => { results := [.lit (.bool false)], args := [d] }
  | _ => none }
def WordLog2BoundsWrongFalsely : Prop := wordLog2BoundsRow.holds Try.pinned (OpenSpec.ofChange wordLog2BoundsWrong)

/-- 'versionmaplaw1.WordZigzagInverse': WHATEVER THE INPUT: true; the input reads as it did. -/
def wordZigzagInverseSpec : ChangeSpec := { name := "wordZigzagInverse", fn := fun _ => fun
  | [d1, d2] => { results := [.lit (.bool true)], args := [d1, d2] }
  | _ => none }
def wordZigzagInverseRow : OpenClaim := { program := "ytkdggpjlafecgaa", sum := "74870fd7a42a2c80ef2a14b59338dd818ae696144464b806c7bc6135cd106d3a", func := "versionmap/versionmaplaw1.WordZigzagInverse", spec := "wordZigzagInverse", apart := false }
def WordZigzagInverseSaid : Prop := wordZigzagInverseRow.holds Try.pinned (OpenSpec.ofChange wordZigzagInverseSpec)

/-- ITS FALSE NEIGHBOUR: 'it returns false'. Refute it at one input. -/
def wordZigzagInverseWrong : ChangeSpec := { name := "wordZigzagInverse", fn := fun _ => fun
  | [d1, d2] => { results := [.lit (.bool false)], args := [d1, d2] }
  | _ => none }
def WordZigzagInverseWrongFalsely : Prop := wordZigzagInverseRow.holds Try.pinned (OpenSpec.ofChange wordZigzagInverseWrong)

/-- 'versionmaplaw1.WordPacks': WHATEVER THE INPUT: true; the input reads as it did. -/
def wordPacksSpec : ChangeSpec := { name := "wordPacks", fn := fun _ => fun
  | [d1, d2, d3] => { results := [.lit (.bool true)], args := [d1, d2, d3] }
  | _ => none }
def wordPacksRow : OpenClaim := { program := "ytkdggpjlafecgaa", sum := "74870fd7a42a2c80ef2a14b59338dd818ae696144464b806c7bc6135cd106d3a", func := "versionmap/versionmaplaw1.WordPacks", spec := "wordPacks", apart := false }
def WordPacksSaid : Prop := wordPacksRow.holds Try.pinned (OpenSpec.ofChange wordPacksSpec)

/-- ITS FALSE NEIGHBOUR: 'it returns false'. Refute it at one input. -/
def wordPacksWrong : ChangeSpec := { name := "wordPacks", fn := fun _ => fun
  | [d1, d2, d3] => { results := [.lit (.bool false)], args := [d1, d2, d3] }
  | _ => none }
def WordPacksWrongFalsely : Prop := wordPacksRow.holds Try.pinned (OpenSpec.ofChange wordPacksWrong)

/-- 'versionmaplaw1.WordKeyRoundTrip': WHATEVER THE INPUT: true; the input reads as it did. -/
def wordKeyRoundTripSpec : ChangeSpec := { name := "wordKeyRoundTrip", fn := fun _ => fun
  | [d1, d2, d3] => { results := [.lit (.bool true)], args := [d1, d2, d3] }
  | _ => none }
def wordKeyRoundTripRow : OpenClaim := { program := "ytkdggpjlafecgaa", sum := "74870fd7a42a2c80ef2a14b59338dd818ae696144464b806c7bc6135cd106d3a", func := "versionmap/versionmaplaw1.WordKeyRoundTrip", spec := "wordKeyRoundTrip", apart := false }
def WordKeyRoundTripSaid : Prop := wordKeyRoundTripRow.holds Try.pinned (OpenSpec.ofChange wordKeyRoundTripSpec)

/-- ITS FALSE NEIGHBOUR: 'it returns false'. Refute it at one input. -/
def wordKeyRoundTripWrong : ChangeSpec := { name := "wordKeyRoundTrip", fn := fun _ => fun
  | [d1, d2, d3] => { results := [.lit (.bool false)], args := [d1, d2, d3] }
  | _ => none }
def WordKeyRoundTripWrongFalsely : Prop := wordKeyRoundTripRow.holds Try.pinned (OpenSpec.ofChange wordKeyRoundTripWrong)

/-- 'versionmaplaw1.WordKeyDecodes': WHATEVER THE INPUT: true; the input reads as it did. -/
def wordKeyDecodesSpec : ChangeSpec := { name := "wordKeyDecodes", fn := fun _ => fun
  | [d1, d2] => { results := [.lit (.bool true)], args := [d1, d2] }
  | _ => none }
def wordKeyDecodesRow : OpenClaim := { program := "ytkdggpjlafecgaa", sum := "74870fd7a42a2c80ef2a14b59338dd818ae696144464b806c7bc6135cd106d3a", func := "versionmap/versionmaplaw1.WordKeyDecodes", spec := "wordKeyDecodes", apart := false }
def WordKeyDecodesSaid : Prop := wordKeyDecodesRow.holds Try.pinned (OpenSpec.ofChange wordKeyDecodesSpec)

/-- ITS FALSE NEIGHBOUR: 'it returns false'. Refute it at one input. -/
def wordKeyDecodesWrong : ChangeSpec := { name := "wordKeyDecodes", fn := fun _ => fun
  | [d1, d2] => { results := [.lit (.bool false)], args := [d1, d2] }
  | _ => none }
def WordKeyDecodesWrongFalsely : Prop := wordKeyDecodesRow.holds Try.pinned (OpenSpec.ofChange wordKeyDecodesWrong)

/-- 'versionmaplaw1.WordUvarintRoundTrip': WHATEVER THE INPUT: true; the input reads as it did. -/
def wordUvarintRoundTripSpec : ChangeSpec := { name := "wordUvarintRoundTrip", fn := fun _ => fun
  | [d1, d2, d3] => { results := [.lit (.bool true)], args := [d1, d2, d3] }
  | _ => none }
def wordUvarintRoundTripRow : OpenClaim := { program := "ytkdggpjlafecgaa", sum := "74870fd7a42a2c80ef2a14b59338dd818ae696144464b806c7bc6135cd106d3a", func := "versionmap/versionmaplaw1.WordUvarintRoundTrip", spec := "wordUvarintRoundTrip", apart := false }
def WordUvarintRoundTripSaid : Prop := wordUvarintRoundTripRow.holds Try.pinned (OpenSpec.ofChange wordUvarintRoundTripSpec)

/-- ITS FALSE NEIGHBOUR: 'it returns false'. Refute it at one input. -/
def wordUvarintRoundTripWrong : ChangeSpec := { name := "wordUvarintRoundTrip", fn := fun _ => fun
  | [d1, d2, d3] => { results := [.lit (.bool false)], args := [d1, d2, d3] }
  | _ => none }
def WordUvarintRoundTripWrongFalsely : Prop := wordUvarintRoundTripRow.holds Try.pinned (OpenSpec.ofChange wordUvarintRoundTripWrong)

/-- 'versionmaplaw1.WordUvarintDecodes': WHATEVER THE INPUT: true; the input reads as it did. -/
def wordUvarintDecodesSpec : ChangeSpec := { name := "wordUvarintDecodes", fn := fun _ => fun
  | [d1, d2] => { results := [.lit (.bool true)], args := [d1, d2] }
  | _ => none }
def wordUvarintDecodesRow : OpenClaim := { program := "ytkdggpjlafecgaa", sum := "74870fd7a42a2c80ef2a14b59338dd818ae696144464b806c7bc6135cd106d3a", func := "versionmap/versionmaplaw1.WordUvarintDecodes", spec := "wordUvarintDecodes", apart := false }
def WordUvarintDecodesSaid : Prop := wordUvarintDecodesRow.holds Try.pinned (OpenSpec.ofChange wordUvarintDecodesSpec)

/-- ITS FALSE NEIGHBOUR: 'it returns false'. Refute it at one input. -/
def wordUvarintDecodesWrong : ChangeSpec := { name := "wordUvarintDecodes", fn := fun _ => fun
  | [d1, d2] => { results := [.lit (.bool false)], args := [d1, d2] }
  | _ => none }
def WordUvarintDecodesWrongFalsely : Prop := wordUvarintDecodesRow.holds Try.pinned (OpenSpec.ofChange wordUvarintDecodesWrong)

/-- 'versionmaplaw1.WordUvarintIsCanonical': WHATEVER THE INPUT: true; the input reads as it did. -/
def wordUvarintIsCanonicalSpec : ChangeSpec := { name := "wordUvarintIsCanonical", fn := fun _ => fun
  | [d1, d2] => { results := [.lit (.bool true)], args := [d1, d2] }
  | _ => none }
def wordUvarintIsCanonicalRow : OpenClaim := { program := "ytkdggpjlafecgaa", sum := "74870fd7a42a2c80ef2a14b59338dd818ae696144464b806c7bc6135cd106d3a", func := "versionmap/versionmaplaw1.WordUvarintIsCanonical", spec := "wordUvarintIsCanonical", apart := false }
def WordUvarintIsCanonicalSaid : Prop := wordUvarintIsCanonicalRow.holds Try.pinned (OpenSpec.ofChange wordUvarintIsCanonicalSpec)

/-- ITS FALSE NEIGHBOUR: 'it returns false'. Refute it at one input. -/
def wordUvarintIsCanonicalWrong : ChangeSpec := { name := "wordUvarintIsCanonical", fn := fun _ => fun
  | [d1, d2] => { results := [.lit (.bool false)], args := [d1, d2] }
  | _ => none }
def WordUvarintIsCanonicalWrongFalsely : Prop := wordUvarintIsCanonicalRow.holds Try.pinned (OpenSpec.ofChange wordUvarintIsCanonicalWrong)

/-- 'versionmaplaw1.WordUvarintPrefixes': WHATEVER THE INPUT: true; the input reads as it did. -/
def wordUvarintPrefixesSpec : ChangeSpec := { name := "wordUvarintPrefixes", fn := fun _ => fun
  | [d1, d2] => { results := [.lit (.bool true)], args := [d1, d2] }
  | _ => none }
def wordUvarintPrefixesRow : OpenClaim := { program := "ytkdggpjlafecgaa", sum := "74870fd7a42a2c80ef2a14b59338dd818ae696144464b806c7bc6135cd106d3a", func := "versionmap/versionmaplaw1.WordUvarintPrefixes", spec := "wordUvarintPrefixes", apart := false }
def WordUvarintPrefixesSaid : Prop := wordUvarintPrefixesRow.holds Try.pinned (OpenSpec.ofChange wordUvarintPrefixesSpec)

/-- ITS FALSE NEIGHBOUR: 'it returns false'. Refute it at one input. -/
def wordUvarintPrefixesWrong : ChangeSpec := { name := "wordUvarintPrefixes", fn := fun _ => fun
  | [d1, d2] => { results := [.lit (.bool false)], args := [d1, d2] }
  | _ => none }
def WordUvarintPrefixesWrongFalsely : Prop := wordUvarintPrefixesRow.holds Try.pinned (OpenSpec.ofChange wordUvarintPrefixesWrong)

/- THE SECOND FORM. 'bulk': how many values and letters a reading holds, each counted each time it is reached (what is shared counts as often as it is met; a slice's spare places count too). A statement '..UptoSaid' is the law's where the arguments, and the package variables that the reading takes, are together of bulk at most 1048576: NARROWER than '..Said'. Prove '..Said' where nothing that the law and all that it calls make is longer than what came in: it says more and counts as full. Else prove '..UptoSaid'. A law counts once. -/
mutual
def uptoBulk {H : Type} : DataW H → Nat
  | .lit (.string bytes) => bytes.length + 1
  | .lit _ => 1
  | .nil => 1
  | .ptr d => uptoBulk d + 1
  | .slice elems spare => uptoBulkAll elems + uptoBulkAll spare + 1
  | .agg parts => uptoBulkAll parts + 1
  | .iface _ d => uptoBulk d + 1
  | .map entries => uptoBulkEntries entries + 1
  | .held _ => 1
def uptoBulkAll {H : Type} : List (DataW H) → Nat
  | [] => 0
  | d :: r => uptoBulk d + uptoBulkAll r
def uptoBulkEntries {H : Type} : List (Lit × DataW H) → Nat
  | [] => 0
  | x :: r => uptoBulkEntry x + uptoBulkEntries r
def uptoBulkEntry {H : Type} : Lit × DataW H → Nat
  | (.string bytes, d) => bytes.length + uptoBulk d + 1
  | (_, d) => uptoBulk d + 1
 end
def uptoSmall : (H : Type) → List (DataW H) → Bool := fun _ ds => decide (uptoBulkAll ds ≤ 1048576)
def OpenSpec.upto (s : _root_.Go.ChangeSpec) : _root_.Go.OpenSpec := { _root_.Go.OpenSpec.ofChange s with cond := some uptoSmall }

/-- 'versionmaplaw1.WordZigzagOrder', WHERE WHAT IT READS IS OF BULK AT MOST 1048576: true; the input reads as it did. -/
def wordZigzagOrderUptoRow : OpenClaim := { program := "ytkdggpjlafecgaa", sum := "74870fd7a42a2c80ef2a14b59338dd818ae696144464b806c7bc6135cd106d3a", func := "versionmap/versionmaplaw1.WordZigzagOrder", spec := "wordZigzagOrder", apart := false, narrowed := true }
def WordZigzagOrderUptoSaid : Prop := wordZigzagOrderUptoRow.holds Try.pinned (OpenSpec.upto wordZigzagOrderSpec)

/-- 'versionmaplaw1.WordKeyOrder', WHERE WHAT IT READS IS OF BULK AT MOST 1048576: true; the input reads as it did. -/
def wordKeyOrderUptoRow : OpenClaim := { program := "ytkdggpjlafecgaa", sum := "74870fd7a42a2c80ef2a14b59338dd818ae696144464b806c7bc6135cd106d3a", func := "versionmap/versionmaplaw1.WordKeyOrder", spec := "wordKeyOrder", apart := false, narrowed := true }
def WordKeyOrderUptoSaid : Prop := wordKeyOrderUptoRow.holds Try.pinned (OpenSpec.upto wordKeyOrderSpec)

/-- 'versionmaplaw1.WordLog2Bounds', WHERE WHAT IT READS IS OF BULK AT MOST 1048576: true; the input reads as it did. -/
def wordLog2BoundsUptoRow : OpenClaim := { program := "ytkdggpjlafecgaa", sum := "74870fd7a42a2c80ef2a14b59338dd818ae696144464b806c7bc6135cd106d3a", func := "versionmap/versionmaplaw1.WordLog2Bounds", spec := "wordLog2Bounds", apart := false, narrowed := true }
def WordLog2BoundsUptoSaid : Prop := wordLog2BoundsUptoRow.holds Try.pinned (OpenSpec.upto wordLog2BoundsSpec)

/-- 'versionmaplaw1.WordZigzagInverse', WHERE WHAT IT READS IS OF BULK AT MOST 1048576: true; the input reads as it did. -/
def wordZigzagInverseUptoRow : OpenClaim := { program := "ytkdggpjlafecgaa", sum := "74870fd7a42a2c80ef2a14b59338dd818ae696144464b806c7bc6135cd106d3a", func := "versionmap/versionmaplaw1.WordZigzagInverse", spec := "wordZigzagInverse", apart := false, narrowed := true }
def WordZigzagInverseUptoSaid : Prop := wordZigzagInverseUptoRow.holds Try.pinned (OpenSpec.upto wordZigzagInverseSpec)

/-- 'versionmaplaw1.WordPacks', WHERE WHAT IT READS IS OF BULK AT MOST 1048576: true; the input reads as it did. -/
def wordPacksUptoRow : OpenClaim := { program := "ytkdggpjlafecgaa", sum := "74870fd7a42a2c80ef2a14b59338dd818ae696144464b806c7bc6135cd106d3a", func := "versionmap/versionmaplaw1.WordPacks", spec := "wordPacks", apart := false, narrowed := true }
def WordPacksUptoSaid : Prop := wordPacksUptoRow.holds Try.pinned (OpenSpec.upto wordPacksSpec)

/-- 'versionmaplaw1.WordKeyRoundTrip', WHERE WHAT IT READS IS OF BULK AT MOST 1048576: true; the input reads as it did. -/
def wordKeyRoundTripUptoRow : OpenClaim := { program := "ytkdggpjlafecgaa", sum := "74870fd7a42a2c80ef2a14b59338dd818ae696144464b806c7bc6135cd106d3a", func := "versionmap/versionmaplaw1.WordKeyRoundTrip", spec := "wordKeyRoundTrip", apart := false, narrowed := true }
def WordKeyRoundTripUptoSaid : Prop := wordKeyRoundTripUptoRow.holds Try.pinned (OpenSpec.upto wordKeyRoundTripSpec)

/-- 'versionmaplaw1.WordKeyDecodes', WHERE WHAT IT READS IS OF BULK AT MOST 1048576: true; the input reads as it did. -/
def wordKeyDecodesUptoRow : OpenClaim := { program := "ytkdggpjlafecgaa", sum := "74870fd7a42a2c80ef2a14b59338dd818ae696144464b806c7bc6135cd106d3a", func := "versionmap/versionmaplaw1.WordKeyDecodes", spec := "wordKeyDecodes", apart := false, narrowed := true }
def WordKeyDecodesUptoSaid : Prop := wordKeyDecodesUptoRow.holds Try.pinned (OpenSpec.upto wordKeyDecodesSpec)

/-- 'versionmaplaw1.WordUvarintRoundTrip', WHERE WHAT IT READS IS OF BULK AT MOST 1048576: true; the input reads as it did. -/
def wordUvarintRoundTripUptoRow : OpenClaim := { program := "ytkdggpjlafecgaa", sum := "74870fd7a42a2c80ef2a14b59338dd818ae696144464b806c7bc6135cd106d3a", func := "versionmap/versionmaplaw1.WordUvarintRoundTrip", spec := "wordUvarintRoundTrip", apart := false, narrowed := true }
def WordUvarintRoundTripUptoSaid : Prop := wordUvarintRoundTripUptoRow.holds Try.pinned (OpenSpec.upto wordUvarintRoundTripSpec)

/-- 'versionmaplaw1.WordUvarintDecodes', WHERE WHAT IT READS IS OF BULK AT MOST 1048576: true; the input reads as it did. -/
def wordUvarintDecodesUptoRow : OpenClaim := { program := "ytkdggpjlafecgaa", sum := "74870fd7a42a2c80ef2a14b59338dd818ae696144464b806c7bc6135cd106d3a", func := "versionmap/versionmaplaw1.WordUvarintDecodes", spec := "wordUvarintDecodes", apart := false, narrowed := true }
def WordUvarintDecodesUptoSaid : Prop := wordUvarintDecodesUptoRow.holds Try.pinned (OpenSpec.upto wordUvarintDecodesSpec)

/-- 'versionmaplaw1.WordUvarintIsCanonical', WHERE WHAT IT READS IS OF BULK AT MOST 1048576: true; the input reads as it did. -/
def wordUvarintIsCanonicalUptoRow : OpenClaim := { program := "ytkdggpjlafecgaa", sum := "74870fd7a42a2c80ef2a14b59338dd818ae696144464b806c7bc6135cd106d3a", func := "versionmap/versionmaplaw1.WordUvarintIsCanonical", spec := "wordUvarintIsCanonical", apart := false, narrowed := true }
def WordUvarintIsCanonicalUptoSaid : Prop := wordUvarintIsCanonicalUptoRow.holds Try.pinned (OpenSpec.upto wordUvarintIsCanonicalSpec)

/-- 'versionmaplaw1.WordUvarintPrefixes', WHERE WHAT IT READS IS OF BULK AT MOST 1048576: true; the input reads as it did. -/
def wordUvarintPrefixesUptoRow : OpenClaim := { program := "ytkdggpjlafecgaa", sum := "74870fd7a42a2c80ef2a14b59338dd818ae696144464b806c7bc6135cd106d3a", func := "versionmap/versionmaplaw1.WordUvarintPrefixes", spec := "wordUvarintPrefixes", apart := false, narrowed := true }
def WordUvarintPrefixesUptoSaid : Prop := wordUvarintPrefixesUptoRow.holds Try.pinned (OpenSpec.upto wordUvarintPrefixesSpec)

end Rows
end Go.Proofs.Ytkdggpjlafecgaa
