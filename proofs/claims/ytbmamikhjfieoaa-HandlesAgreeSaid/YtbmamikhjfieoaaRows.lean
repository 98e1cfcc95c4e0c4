/-
  No cell of these rows narrows 'for every input' (looked for: loops, veiled, ifaces, maps, wideKeys, modest, calm, conditions, laid).
  DERIVED. THE GIVEN ROWS OF THIS SEAT. 10 by the template 'for every input the law returns true; each argument reads behind the call as it read before'; 0 by the template 'total and deterministic' (their statements: YtbmamikhjfieoaaTotals.lean).
  GIVEN WITH THE SEED: the statements are not yours to turn. If you find one false, say at which input.
  Laid BY PROGRAM, IN A SANDBOX (cutbox-rows.mjs): the forced cells as the released guide's own fill.sh prints them over the translation 7f26d2070a090f19… (all of the seat's roots in one cut). By AI agents, Wed Nov 11 2026. No macro, syntax, notation, axiom, sorry.
-/
import Derived.Test.YtbmamikhjfieoaaChecked
import GoSem.Claim
import GoSem.ClaimJoined
import GoSem.ClaimMapViews
import Derived.JoinedTies
import Derived.KernelRfl
namespace Go.Proofs.Ytbmamikhjfieoaa
/- THE CELL 'sum', in the pinned program and in every row, IS THE sha256 OF THE DUMP (.gsa) THAT YtbmamikhjfieoaaProg.lean LOADS. Nothing in Lean hashes anything: it is a label: what it is worth is what the hold of that sum in a sandbox is worth. -/
noncomputable def Try.pinned : Pinned := { name := "ytbmamikhjfieoaa", sum := "7f26d2070a090f19c78ff4da116ef02e491c96e8a51166553a7424144f587921", checked := Try.checked }
namespace Rows
def none {H : Type} : Left H := { results := [], args := [] }

/-- 'versionmaplaw3.SlotsNeverTwice': WHATEVER THE INPUT: true; the input reads as it did. -/
def slotsNeverTwiceSpec : ChangeSpec := { name := "slotsNeverTwice", fn := fun _ => fun
  | [d1, d2] => { results := [.lit (.bool true)], args := [d1, d2] }
  | _ => none }
def slotsNeverTwiceRow : OpenClaim := { program := "ytbmamikhjfieoaa", sum := "7f26d2070a090f19c78ff4da116ef02e491c96e8a51166553a7424144f587921", func := "versionmap/versionmaplaw3.SlotsNeverTwice", spec := "slotsNeverTwice", apart := false }
def SlotsNeverTwiceSaid : Prop := slotsNeverTwiceRow.holds Try.pinned (OpenSpec.ofChange slotsNeverTwiceSpec)

/-- ITS FALSE NEIGHBOUR: 'it returns false'. Refute it at one input. -/
def slotsNeverTwiceWrong : ChangeSpec := { name := "slotsNeverTwice", fn := fun _ => fun
  | [d1, d2] => { results := [.lit (.bool false)], args := [d1, d2] }
  | _ => none }
def SlotsNeverTwiceWrongFalsely : Prop := slotsNeverTwiceRow.holds Try.pinned (OpenSpec.ofChange slotsNeverTwiceWrong)

/-- 'versionmaplaw3.SlotsNew': WHATEVER THE INPUT: true; the input reads as it did. -/
def slotsNewSpec : ChangeSpec := { name := "slotsNew", fn := fun _ => fun
  | [d1, d2] => { results := [.lit (.bool true)], args := [d1, d2] }
  | _ => none }
def slotsNewRow : OpenClaim := { program := "ytbmamikhjfieoaa", sum := "7f26d2070a090f19c78ff4da116ef02e491c96e8a51166553a7424144f587921", func := "versionmap/versionmaplaw3.SlotsNew", spec := "slotsNew", apart := false }
def SlotsNewSaid : Prop := slotsNewRow.holds Try.pinned (OpenSpec.ofChange slotsNewSpec)

/-- ITS FALSE NEIGHBOUR: 'it returns false'. Refute it at one input. -/
def slotsNewWrong : ChangeSpec := { name := "slotsNew", fn := fun _ => fun
  | [d1, d2] => { results := [.lit (.bool false)], args := [d1, d2] }
  | _ => none }
def SlotsNewWrongFalsely : Prop := slotsNewRow.holds Try.pinned (OpenSpec.ofChange slotsNewWrong)

/-- 'versionmaplaw3.SlotsAgree': WHATEVER THE INPUT: true; the input reads as it did. -/
def slotsAgreeSpec : ChangeSpec := { name := "slotsAgree", fn := fun _ => fun
  | [d1, d2] => { results := [.lit (.bool true)], args := [d1, d2] }
  | _ => none }
def slotsAgreeRow : OpenClaim := { program := "ytbmamikhjfieoaa", sum := "7f26d2070a090f19c78ff4da116ef02e491c96e8a51166553a7424144f587921", func := "versionmap/versionmaplaw3.SlotsAgree", spec := "slotsAgree", apart := false }
def SlotsAgreeSaid : Prop := slotsAgreeRow.holds Try.pinned (OpenSpec.ofChange slotsAgreeSpec)

/-- ITS FALSE NEIGHBOUR: 'it returns false'. Refute it at one input. -/
def slotsAgreeWrong : ChangeSpec := { name := "slotsAgree", fn := fun _ => fun
  | [d1, d2] => { results := [.lit (.bool false)], args := [d1, d2] }
  | _ => none }
def SlotsAgreeWrongFalsely : Prop := slotsAgreeRow.holds Try.pinned (OpenSpec.ofChange slotsAgreeWrong)

/-- 'versionmaplaw3.SlotsPartition': WHATEVER THE INPUT: true; the input reads as it did. -/
def slotsPartitionSpec : ChangeSpec := { name := "slotsPartition", fn := fun _ => fun
  | [d1, d2] => { results := [.lit (.bool true)], args := [d1, d2] }
  | _ => none }
def slotsPartitionRow : OpenClaim := { program := "ytbmamikhjfieoaa", sum := "7f26d2070a090f19c78ff4da116ef02e491c96e8a51166553a7424144f587921", func := "versionmap/versionmaplaw3.SlotsPartition", spec := "slotsPartition", apart := false }
def SlotsPartitionSaid : Prop := slotsPartitionRow.holds Try.pinned (OpenSpec.ofChange slotsPartitionSpec)

/-- ITS FALSE NEIGHBOUR: 'it returns false'. Refute it at one input. -/
def slotsPartitionWrong : ChangeSpec := { name := "slotsPartition", fn := fun _ => fun
  | [d1, d2] => { results := [.lit (.bool false)], args := [d1, d2] }
  | _ => none }
def SlotsPartitionWrongFalsely : Prop := slotsPartitionRow.holds Try.pinned (OpenSpec.ofChange slotsPartitionWrong)

/-- 'versionmaplaw3.SlotsAreReusedFirst': WHATEVER THE INPUT: true; the input reads as it did. -/
def slotsAreReusedFirstSpec : ChangeSpec := { name := "slotsAreReusedFirst", fn := fun _ => fun
  | [d1, d2, d3] => { results := [.lit (.bool true)], args := [d1, d2, d3] }
  | _ => none }
def slotsAreReusedFirstRow : OpenClaim := { program := "ytbmamikhjfieoaa", sum := "7f26d2070a090f19c78ff4da116ef02e491c96e8a51166553a7424144f587921", func := "versionmap/versionmaplaw3.SlotsAreReusedFirst", spec := "slotsAreReusedFirst", apart := false }
def SlotsAreReusedFirstSaid : Prop := slotsAreReusedFirstRow.holds Try.pinned (OpenSpec.ofChange slotsAreReusedFirstSpec)

/-- ITS FALSE NEIGHBOUR: 'it returns false'. Refute it at one input. -/
def slotsAreReusedFirstWrong : ChangeSpec := { name := "slotsAreReusedFirst", fn := fun _ => fun
  | [d1, d2, d3] => { results := [.lit (.bool false)], args := [d1, d2, d3] }
  | _ => none }
def SlotsAreReusedFirstWrongFalsely : Prop := slotsAreReusedFirstRow.holds Try.pinned (OpenSpec.ofChange slotsAreReusedFirstWrong)

/-- 'versionmaplaw4.HandlesNew': WHATEVER THE INPUT: true; the input reads as it did. -/
def handlesNewSpec : ChangeSpec := { name := "handlesNew", fn := fun _ => fun
  | [d1, d2] => { results := [.lit (.bool true)], args := [d1, d2] }
  | _ => none }
def handlesNewRow : OpenClaim := { program := "ytbmamikhjfieoaa", sum := "7f26d2070a090f19c78ff4da116ef02e491c96e8a51166553a7424144f587921", func := "versionmap/versionmaplaw4.HandlesNew", spec := "handlesNew", apart := false }
def HandlesNewSaid : Prop := handlesNewRow.holds Try.pinned (OpenSpec.ofChange handlesNewSpec)

/-- ITS FALSE NEIGHBOUR: 'it returns false'. Refute it at one input. -/
def handlesNewWrong : ChangeSpec := { name := "handlesNew", fn := fun _ => fun
  | [d1, d2] => { results := [.lit (.bool false)], args := [d1, d2] }
  | _ => none }
def HandlesNewWrongFalsely : Prop := handlesNewRow.holds Try.pinned (OpenSpec.ofChange handlesNewWrong)

/-- 'versionmaplaw4.HandlesAreDistinct': WHATEVER THE INPUT: true; the input reads as it did. -/
def handlesAreDistinctSpec : ChangeSpec := { name := "handlesAreDistinct", fn := fun _ => fun
  | [d1, d2] => { results := [.lit (.bool true)], args := [d1, d2] }
  | _ => none }
def handlesAreDistinctRow : OpenClaim := { program := "ytbmamikhjfieoaa", sum := "7f26d2070a090f19c78ff4da116ef02e491c96e8a51166553a7424144f587921", func := "versionmap/versionmaplaw4.HandlesAreDistinct", spec := "handlesAreDistinct", apart := false }
def HandlesAreDistinctSaid : Prop := handlesAreDistinctRow.holds Try.pinned (OpenSpec.ofChange handlesAreDistinctSpec)

/-- ITS FALSE NEIGHBOUR: 'it returns false'. Refute it at one input. -/
def handlesAreDistinctWrong : ChangeSpec := { name := "handlesAreDistinct", fn := fun _ => fun
  | [d1, d2] => { results := [.lit (.bool false)], args := [d1, d2] }
  | _ => none }
def HandlesAreDistinctWrongFalsely : Prop := handlesAreDistinctRow.holds Try.pinned (OpenSpec.ofChange handlesAreDistinctWrong)

/-- 'versionmaplaw4.HandlesKeepValues': WHATEVER THE INPUT: true; the input reads as it did. -/
def handlesKeepValuesSpec : ChangeSpec := { name := "handlesKeepValues", fn := fun _ => fun
  | [d1, d2, d3, d4, d5] => { results := [.lit (.bool true)], args := [d1, d2, d3, d4, d5] }
  | _ => none }
def handlesKeepValuesRow : OpenClaim := { program := "ytbmamikhjfieoaa", sum := "7f26d2070a090f19c78ff4da116ef02e491c96e8a51166553a7424144f587921", func := "versionmap/versionmaplaw4.HandlesKeepValues", spec := "handlesKeepValues", apart := false }
def HandlesKeepValuesSaid : Prop := handlesKeepValuesRow.holds Try.pinned (OpenSpec.ofChange handlesKeepValuesSpec)

/-- ITS FALSE NEIGHBOUR: 'it returns false'. Refute it at one input. -/
def handlesKeepValuesWrong : ChangeSpec := { name := "handlesKeepValues", fn := fun _ => fun
  | [d1, d2, d3, d4, d5] => { results := [.lit (.bool false)], args := [d1, d2, d3, d4, d5] }
  | _ => none }
def HandlesKeepValuesWrongFalsely : Prop := handlesKeepValuesRow.holds Try.pinned (OpenSpec.ofChange handlesKeepValuesWrong)

/-- 'versionmaplaw4.HandlesForged': WHATEVER THE INPUT: true; the input reads as it did. -/
def handlesForgedSpec : ChangeSpec := { name := "handlesForged", fn := fun _ => fun
  | [d1, d2, d3] => { results := [.lit (.bool true)], args := [d1, d2, d3] }
  | _ => none }
def handlesForgedRow : OpenClaim := { program := "ytbmamikhjfieoaa", sum := "7f26d2070a090f19c78ff4da116ef02e491c96e8a51166553a7424144f587921", func := "versionmap/versionmaplaw4.HandlesForged", spec := "handlesForged", apart := false }
def HandlesForgedSaid : Prop := handlesForgedRow.holds Try.pinned (OpenSpec.ofChange handlesForgedSpec)

/-- ITS FALSE NEIGHBOUR: 'it returns false'. Refute it at one input. -/
def handlesForgedWrong : ChangeSpec := { name := "handlesForged", fn := fun _ => fun
  | [d1, d2, d3] => { results := [.lit (.bool false)], args := [d1, d2, d3] }
  | _ => none }
def HandlesForgedWrongFalsely : Prop := handlesForgedRow.holds Try.pinned (OpenSpec.ofChange handlesForgedWrong)

/-- 'versionmaplaw4.HandlesAgree': WHATEVER THE INPUT: true; the input reads as it did. -/
def handlesAgreeSpec : ChangeSpec := { name := "handlesAgree", fn := fun _ => fun
  | [d1, d2] => { results := [.lit (.bool true)], args := [d1, d2] }
  | _ => none }
def handlesAgreeRow : OpenClaim := { program := "ytbmamikhjfieoaa", sum := "7f26d2070a090f19c78ff4da116ef02e491c96e8a51166553a7424144f587921", func := "versionmap/versionmaplaw4.HandlesAgree", spec := "handlesAgree", apart := false }
def HandlesAgreeSaid : Prop := handlesAgreeRow.holds Try.pinned (OpenSpec.ofChange handlesAgreeSpec)

/-- ITS FALSE NEIGHBOUR: 'it returns false'. Refute it at one input. -/
def handlesAgreeWrong : ChangeSpec := { name := "handlesAgree", fn := fun _ => fun
  | [d1, d2] => { results := [.lit (.bool false)], args := [d1, d2] }
  | _ => none }
def HandlesAgreeWrongFalsely : Prop := handlesAgreeRow.holds Try.pinned (OpenSpec.ofChange handlesAgreeWrong)

/- THE SECOND FORM. 'bulk': how many values and letters a reading holds, each counted each time it is reached (what is shared counts as often as it is met; a slice's spare places count too). A statement '..UptoSaid' is the law's where the arguments, and the package variables that the reading takes, are together of bulk at most 1048576: NARROWER than '..Said'. Prove '..Said' where nothing that the law and all that it calls make is longer than what came in: it says more and counts as full. Else prove '..UptoSaid'. A law counts once. -/
mutual
def uptoBulk {H : Type} : DataW H → Nat
  | .lit (.string bytes) => bytes.length + 1
  | .lit _ => 1
  | .nil => 1
  | .ptr d => uptoBulk d + 1
  | .slice elems spare => uptoBulkAll elems + uptoBulkAll spare + 1
  | .agg parts => uptoBulkAll parts + 1
  | .iface _ d => uptoBulk d + 1
  | .map entries => uptoBulkEntries entries + 1
  | .held _ => 1
def uptoBulkAll {H : Type} : List (DataW H) → Nat
  | [] => 0
  | d :: r => uptoBulk d + uptoBulkAll r
def uptoBulkEntries {H : Type} : List (Lit × DataW H) → Nat
  | [] => 0
  | x :: r => uptoBulkEntry x + uptoBulkEntries r
def uptoBulkEntry {H : Type} : Lit × DataW H → Nat
  | (.string bytes, d) => bytes.length + uptoBulk d + 1
  | (_, d) => uptoBulk d + 1
 end
def uptoSmall : (H : Type) → List (DataW H) → Bool := fun _ ds => decide (uptoBulkAll ds ≤ 1048576)
def OpenSpec.upto (s : _root_.Go.ChangeSpec) : _root_.Go.OpenSpec := { _root_.Go.OpenSpec.ofChange s with cond := some uptoSmall }

/-- 'versionmaplaw3.SlotsNeverTwice', WHERE WHAT IT READS IS OF BULK AT MOST 1048576: true; the input reads as it did. -/
def slotsNeverTwiceUptoRow : OpenClaim := { program := "ytbmamikhjfieoaa", sum := "7f26d2070a090f19c78ff4da116ef02e491c96e8a51166553a7424144f587921", func := "versionmap/versionmaplaw3.SlotsNeverTwice", spec := "slotsNeverTwice", apart := false, narrowed := true }
def SlotsNeverTwiceUptoSaid : Prop := slotsNeverTwiceUptoRow.holds Try.pinned (OpenSpec.upto slotsNeverTwiceSpec)

/-- 'versionmaplaw3.SlotsNew', WHERE WHAT IT READS IS OF BULK AT MOST 1048576: true; the input reads as it did. -/
def slotsNewUptoRow : OpenClaim := { program := "ytbmamikhjfieoaa", sum := "7f26d2070a090f19c78ff4da116ef02e491c96e8a51166553a7424144f587921", func := "versionmap/versionmaplaw3.SlotsNew", spec := "slotsNew", apart := false, narrowed := true }
def SlotsNewUptoSaid : Prop := slotsNewUptoRow.holds Try.pinned (OpenSpec.upto slotsNewSpec)

/-- 'versionmaplaw3.SlotsAgree', WHERE WHAT IT READS IS OF BULK AT MOST 1048576: true; the input reads as it did. -/
def slotsAgreeUptoRow : OpenClaim := { program := "ytbmamikhjfieoaa", sum := "7f26d2070a090f19c78ff4da116ef02e491c96e8a51166553a7424144f587921", func := "versionmap/versionmaplaw3.SlotsAgree", spec := "slotsAgree", apart := false, narrowed := true }
def SlotsAgreeUptoSaid : Prop := slotsAgreeUptoRow.holds Try.pinned (OpenSpec.upto slotsAgreeSpec)

/-- 'versionmaplaw3.SlotsPartition', WHERE WHAT IT READS IS OF BULK AT MOST 1048576: true; the input reads as it did. -/
def slotsPartitionUptoRow : OpenClaim := { program := "ytbmamikhjfieoaa", sum := "7f26d2070a090f19c78ff4da116ef02e491c96e8a51166553a7424144f587921", func := "versionmap/versionmaplaw3.SlotsPartition", spec := "slotsPartition", apart := false, narrowed := true }
def SlotsPartitionUptoSaid : Prop := slotsPartitionUptoRow.holds Try.pinned (OpenSpec.upto slotsPartitionSpec)

/-- 'versionmaplaw3.SlotsAreReusedFirst', WHERE WHAT IT READS IS OF BULK AT MOST 1048576: true; the input reads as it did. -/
def slotsAreReusedFirstUptoRow : OpenClaim := { program := "ytbmamikhjfieoaa", sum := "7f26d2070a090f19c78ff4da116ef02e491c96e8a51166553a7424144f587921", func := "versionmap/versionmaplaw3.SlotsAreReusedFirst", spec := "slotsAreReusedFirst", apart := false, narrowed := true }
def SlotsAreReusedFirstUptoSaid : Prop := slotsAreReusedFirstUptoRow.holds Try.pinned (OpenSpec.upto slotsAreReusedFirstSpec)

/-- 'versionmaplaw4.HandlesNew', WHERE WHAT IT READS IS OF BULK AT MOST 1048576: true; the input reads as it did. -/
def handlesNewUptoRow : OpenClaim := { program := "ytbmamikhjfieoaa", sum := "7f26d2070a090f19c78ff4da116ef02e491c96e8a51166553a7424144f587921", func := "versionmap/versionmaplaw4.HandlesNew", spec := "handlesNew", apart := false, narrowed := true }
def HandlesNewUptoSaid : Prop := handlesNewUptoRow.holds Try.pinned (OpenSpec.upto handlesNewSpec)

/-- 'versionmaplaw4.HandlesAreDistinct', WHERE WHAT IT READS IS OF BULK AT MOST 1048576: true; the input reads as it did. -/
def handlesAreDistinctUptoRow : OpenClaim := { program := "ytbmamikhjfieoaa", sum := "7f26d2070a090f19c78ff4da116ef02e491c96e8a51166553a7424144f587921", func := "versionmap/versionmaplaw4.HandlesAreDistinct", spec := "handlesAreDistinct", apart := false, narrowed := true }
def HandlesAreDistinctUptoSaid : Prop := handlesAreDistinctUptoRow.holds Try.pinned (OpenSpec.upto handlesAreDistinctSpec)

/-- 'versionmaplaw4.HandlesKeepValues', WHERE WHAT IT READS IS OF BULK AT MOST 1048576: true; the input reads as it did. -/
def handlesKeepValuesUptoRow : OpenClaim := { program := "ytbmamikhjfieoaa", sum := "7f26d2070a090f19c78ff4da116ef02e491c96e8a51166553a7424144f587921", func := "versionmap/versionmaplaw4.HandlesKeepValues", spec := "handlesKeepValues", apart := false, narrowed := true }
def HandlesKeepValuesUptoSaid : Prop := handlesKeepValuesUptoRow.holds Try.pinned (OpenSpec.upto handlesKeepValuesSpec)

/-- 'versionmaplaw4.HandlesForged', WHERE WHAT IT READS IS OF BULK AT MOST 1048576: true; the input reads as it did. -/
def handlesForgedUptoRow : OpenClaim := { program := "ytbmamikhjfieoaa", sum := "7f26d2070a090f19c78ff4da116ef02e491c96e8a51166553a7424144f587921", func := "versionmap/versionmaplaw4.HandlesForged", spec := "handlesForged", apart := false, narrowed := true }
def HandlesForgedUptoSaid : Prop := handlesForgedUptoRow.holds Try.pinned (OpenSpec.upto handlesForgedSpec)

/-- 'versionmaplaw4.HandlesAgree', WHERE WHAT IT READS IS OF BULK AT MOST 1048576: true; the input reads as it did. -/
def handlesAgreeUptoRow : OpenClaim := { program := "ytbmamikhjfieoaa", sum := "7f26d2070a090f19c78ff4da116ef02e491c96e8a51166553a7424144f587921", func := "versionmap/versionmaplaw4.HandlesAgree", spec := "handlesAgree", apart := false, narrowed := true }
def HandlesAgreeUptoSaid : Prop := handlesAgreeUptoRow.holds Try.pinned (OpenSpec.upto handlesAgreeSpec)

end Rows
end Go.Proofs.Ytbmamikhjfieoaa
