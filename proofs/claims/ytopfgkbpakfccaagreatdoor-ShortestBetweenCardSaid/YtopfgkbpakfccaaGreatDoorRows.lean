/-
  NARROWER THAN 'FOR EVERY INPUT', by the rows' own cells (each row's printed sentence says how): ShortestRoutes: laid · ShortestNodes: laid · ShortestTriangle: laid · ShortestReverses: laid · ShortestLengths: laid · ShortestCertifies: laid · ShortestChanged: laid · ShortestAlong: laid · ShortestBetween: laid · ShortestChecks: laid · ShortestWithin: laid.
  DERIVED. THE GIVEN ROWS OF THIS SEAT. 11 by the template 'for every input the law returns true; each argument reads behind the call as it read before'; 0 by the template 'total and deterministic' (their statements: YtopfgkbpakfccaaGreatDoorTotals.lean).
  GIVEN WITH THE SEED: the statements are not yours to turn. If you find one false, say at which input.
  Laid BY PROGRAM, IN A SANDBOX (cutbox-rows.mjs): the forced cells as the released guide's own fill.sh prints them over the translation ce7a9aa2e81df56d… (all of the seat's roots in one cut). By AI agents, Wed Nov 11 2026. No macro, syntax, notation, axiom, sorry.
-/
import Derived.Test.YtopfgkbpakfccaaGreatDoorChecked
import GoSem.PinnedTables
import GoSem.Claim
import GoSem.ClaimJoined
import GoSem.ClaimMapViews
import Derived.JoinedTies
import Derived.KernelRfl
namespace Go.Proofs.YtopfgkbpakfccaaGreatDoor
/- THE CELL 'sum', in the pinned program and in every row, IS THE sha256 OF THE DUMP (.gsa) THAT YtopfgkbpakfccaaGreatDoorProg.lean LOADS. Nothing in Lean hashes anything: it is a label: what it is worth is what the hold of that sum in a sandbox is worth. -/
noncomputable def Tryz.pinned : Pinned := { name := "ytopfgkbpakfccaagreatdoor", sum := "ce7a9aa2e81df56dcb6467cf6287f0b5a738d1de287d4d301ac44fc1169a7f1c", checked := Tryz.checked }
namespace Rows
def none {H : Type} : Left H := { results := [], args := [] }

/- WHAT THE LISTED PACKAGE-LEVEL VARIABLES READ AS WHEN THE CALL BEGINS. Each datum BY PROGRAM (the guide's laid-datum.mjs) off the statement by which the dump's own 'gosem.cut.vars' lays the variable. In a bare row this is a premise. The card (YtopfgkbpakfccaaGreatDoorCards.lean) ties it to the program's text. -/
def laid_unicode_utf8_acceptRanges {H : Type} : DataW H := .agg [.agg [.lit (.int .u8 128), .lit (.int .u8 191)], .agg [.lit (.int .u8 160), .lit (.int .u8 191)], .agg [.lit (.int .u8 128), .lit (.int .u8 159)], .agg [.lit (.int .u8 144), .lit (.int .u8 191)], .agg [.lit (.int .u8 128), .lit (.int .u8 143)], .agg [.lit (.int .u8 0), .lit (.int .u8 0)], .agg [.lit (.int .u8 0), .lit (.int .u8 0)], .agg [.lit (.int .u8 0), .lit (.int .u8 0)], .agg [.lit (.int .u8 0), .lit (.int .u8 0)], .agg [.lit (.int .u8 0), .lit (.int .u8 0)], .agg [.lit (.int .u8 0), .lit (.int .u8 0)], .agg [.lit (.int .u8 0), .lit (.int .u8 0)], .agg [.lit (.int .u8 0), .lit (.int .u8 0)], .agg [.lit (.int .u8 0), .lit (.int .u8 0)], .agg [.lit (.int .u8 0), .lit (.int .u8 0)], .agg [.lit (.int .u8 0), .lit (.int .u8 0)]]
/-- One of Go's own tables, pinned by name: the form's constant. -/
def laid_unicode_utf8_first : DataW Unit := Go.Pinned.utf8First

/-- 'viatorlaw21.ShortestRoutes': WHATEVER THE INPUT: true; the input reads as it did. -/
def shortestRoutesSpec : ChangeSpec := { name := "shortestRoutes", fn := fun _ => fun
  | [d1, d2, d3] => { results := [.lit (.bool true)], args := [d1, d2, d3] }
  | _ => none }
def shortestRoutesRow : OpenClaim := { program := "ytopfgkbpakfccaagreatdoor", sum := "ce7a9aa2e81df56dcb6467cf6287f0b5a738d1de287d4d301ac44fc1169a7f1c", func := "viator/viatorlaw21.ShortestRoutes", spec := "shortestRoutes", inPlace := ["internal/bytealg.abigen_runtime_cmpstring", "internal/bytealg.IndexByteString", "internal/bytealg.IndexString", "math/bits.Add64"], unfollowed := true, recurses := true, named := ["unicode/utf8.first", "unicode/utf8.acceptRanges", "internal/bytealg.MaxLen"], apart := false, laid := [("unicode/utf8.acceptRanges", laid_unicode_utf8_acceptRanges), ("unicode/utf8.first", laid_unicode_utf8_first)] }
def ShortestRoutesSaid : Prop := shortestRoutesRow.holds Tryz.pinned (OpenSpec.ofChange shortestRoutesSpec)

/-- ITS FALSE NEIGHBOUR: 'it returns false'. Refute it at one input. -/
def shortestRoutesWrong : ChangeSpec := { name := "shortestRoutes", fn := fun _ => fun
  | [d1, d2, d3] => { results := [.lit (.bool false)], args := [d1, d2, d3] }
  | _ => none }
def ShortestRoutesWrongFalsely : Prop := shortestRoutesRow.holds Tryz.pinned (OpenSpec.ofChange shortestRoutesWrong)

/-- 'viatorlaw21.ShortestNodes': WHATEVER THE INPUT: true; the input reads as it did. -/
def shortestNodesSpec : ChangeSpec := { name := "shortestNodes", fn := fun _ => fun
  | [d1, d2, d3] => { results := [.lit (.bool true)], args := [d1, d2, d3] }
  | _ => none }
def shortestNodesRow : OpenClaim := { program := "ytopfgkbpakfccaagreatdoor", sum := "ce7a9aa2e81df56dcb6467cf6287f0b5a738d1de287d4d301ac44fc1169a7f1c", func := "viator/viatorlaw21.ShortestNodes", spec := "shortestNodes", inPlace := ["internal/bytealg.abigen_runtime_cmpstring", "internal/bytealg.IndexByteString", "internal/bytealg.IndexString", "math/bits.Add64"], unfollowed := true, recurses := true, named := ["unicode/utf8.first", "unicode/utf8.acceptRanges", "internal/bytealg.MaxLen"], apart := false, laid := [("unicode/utf8.acceptRanges", laid_unicode_utf8_acceptRanges), ("unicode/utf8.first", laid_unicode_utf8_first)] }
def ShortestNodesSaid : Prop := shortestNodesRow.holds Tryz.pinned (OpenSpec.ofChange shortestNodesSpec)

/-- ITS FALSE NEIGHBOUR: 'it returns false'. Refute it at one input. -/
def shortestNodesWrong : ChangeSpec := { name := "shortestNodes", fn := fun _ => fun
  | [d1, d2, d3] => { results := [.lit (.bool false)], args := [d1, d2, d3] }
  | _ => none }
def ShortestNodesWrongFalsely : Prop := shortestNodesRow.holds Tryz.pinned (OpenSpec.ofChange shortestNodesWrong)

/-- 'viatorlaw21.ShortestTriangle': WHATEVER THE INPUT: true; the input reads as it did. -/
def shortestTriangleSpec : ChangeSpec := { name := "shortestTriangle", fn := fun _ => fun
  | [d1, d2] => { results := [.lit (.bool true)], args := [d1, d2] }
  | _ => none }
def shortestTriangleRow : OpenClaim := { program := "ytopfgkbpakfccaagreatdoor", sum := "ce7a9aa2e81df56dcb6467cf6287f0b5a738d1de287d4d301ac44fc1169a7f1c", func := "viator/viatorlaw21.ShortestTriangle", spec := "shortestTriangle", inPlace := ["internal/bytealg.abigen_runtime_cmpstring", "internal/bytealg.IndexByteString", "internal/bytealg.IndexString", "math/bits.Add64"], unfollowed := true, recurses := true, named := ["unicode/utf8.first", "unicode/utf8.acceptRanges", "internal/bytealg.MaxLen"], apart := false, laid := [("unicode/utf8.acceptRanges", laid_unicode_utf8_acceptRanges), ("unicode/utf8.first", laid_unicode_utf8_first)] }
def ShortestTriangleSaid : Prop := shortestTriangleRow.holds Tryz.pinned (OpenSpec.ofChange shortestTriangleSpec)

/-- ITS FALSE NEIGHBOUR: 'it returns false'. Refute it at one input. -/
def shortestTriangleWrong : ChangeSpec := { name := "shortestTriangle", fn := fun _ => fun
  | [d1, d2] => { results := [.lit (.bool false)], args := [d1, d2] }
  | _ => none }
def ShortestTriangleWrongFalsely : Prop := shortestTriangleRow.holds Tryz.pinned (OpenSpec.ofChange shortestTriangleWrong)

/-- 'viatorlaw21.ShortestReverses': WHATEVER THE INPUT: true; the input reads as it did. -/
def shortestReversesSpec : ChangeSpec := { name := "shortestReverses", fn := fun _ => fun
  | [d1, d2, d3] => { results := [.lit (.bool true)], args := [d1, d2, d3] }
  | _ => none }
def shortestReversesRow : OpenClaim := { program := "ytopfgkbpakfccaagreatdoor", sum := "ce7a9aa2e81df56dcb6467cf6287f0b5a738d1de287d4d301ac44fc1169a7f1c", func := "viator/viatorlaw21.ShortestReverses", spec := "shortestReverses", inPlace := ["internal/bytealg.abigen_runtime_cmpstring", "internal/bytealg.IndexByteString", "internal/bytealg.IndexString", "math/bits.Add64"], unfollowed := true, recurses := true, named := ["unicode/utf8.first", "unicode/utf8.acceptRanges", "internal/bytealg.MaxLen"], apart := false, laid := [("unicode/utf8.acceptRanges", laid_unicode_utf8_acceptRanges), ("unicode/utf8.first", laid_unicode_utf8_first)] }
def ShortestReversesSaid : Prop := shortestReversesRow.holds Tryz.pinned (OpenSpec.ofChange shortestReversesSpec)

/-- ITS FALSE NEIGHBOUR: 'it returns false'. Refute it at one input. -/
def shortestReversesWrong : ChangeSpec := { name := "shortestReverses", fn := fun _ => fun
  | [d1, d2, d3] => { results := [.lit (.bool false)], args := [d1, d2, d3] }
  | _ => none }
def ShortestReversesWrongFalsely : Prop := shortestReversesRow.holds Tryz.pinned (OpenSpec.ofChange shortestReversesWrong)

/-- 'viatorlaw21.ShortestLengths': WHATEVER THE INPUT: true; the input reads as it did. -/
def shortestLengthsSpec : ChangeSpec := { name := "shortestLengths", fn := fun _ => fun
  | [d1, d2] => { results := [.lit (.bool true)], args := [d1, d2] }
  | _ => none }
def shortestLengthsRow : OpenClaim := { program := "ytopfgkbpakfccaagreatdoor", sum := "ce7a9aa2e81df56dcb6467cf6287f0b5a738d1de287d4d301ac44fc1169a7f1c", func := "viator/viatorlaw21.ShortestLengths", spec := "shortestLengths", inPlace := ["internal/bytealg.abigen_runtime_cmpstring", "internal/bytealg.IndexByteString", "internal/bytealg.IndexString", "math/bits.Add64"], unfollowed := true, recurses := true, named := ["unicode/utf8.first", "unicode/utf8.acceptRanges", "internal/bytealg.MaxLen"], apart := false, laid := [("unicode/utf8.acceptRanges", laid_unicode_utf8_acceptRanges), ("unicode/utf8.first", laid_unicode_utf8_first)] }
def ShortestLengthsSaid : Prop := shortestLengthsRow.holds Tryz.pinned (OpenSpec.ofChange shortestLengthsSpec)

/-- ITS FALSE NEIGHBOUR: 'it returns false'. Refute it at one input. -/
def shortestLengthsWrong : ChangeSpec := { name := "shortestLengths", fn := fun _ => fun
  | [d1, d2] => { results := [.lit (.bool false)], args := [d1, d2] }
  | _ => none }
def ShortestLengthsWrongFalsely : Prop := shortestLengthsRow.holds Tryz.pinned (OpenSpec.ofChange shortestLengthsWrong)

/-- 'viatorlaw21.ShortestCertifies': WHATEVER THE INPUT: true; the input reads as it did. -/
def shortestCertifiesSpec : ChangeSpec := { name := "shortestCertifies", fn := fun _ => fun
  | [d1, d2, d3] => { results := [.lit (.bool true)], args := [d1, d2, d3] }
  | _ => none }
def shortestCertifiesRow : OpenClaim := { program := "ytopfgkbpakfccaagreatdoor", sum := "ce7a9aa2e81df56dcb6467cf6287f0b5a738d1de287d4d301ac44fc1169a7f1c", func := "viator/viatorlaw21.ShortestCertifies", spec := "shortestCertifies", inPlace := ["internal/bytealg.abigen_runtime_cmpstring", "internal/bytealg.IndexByteString", "internal/bytealg.IndexString", "math/bits.Add64"], unfollowed := true, recurses := true, named := ["unicode/utf8.first", "unicode/utf8.acceptRanges", "internal/bytealg.MaxLen"], apart := false, laid := [("unicode/utf8.acceptRanges", laid_unicode_utf8_acceptRanges), ("unicode/utf8.first", laid_unicode_utf8_first)] }
def ShortestCertifiesSaid : Prop := shortestCertifiesRow.holds Tryz.pinned (OpenSpec.ofChange shortestCertifiesSpec)

/-- ITS FALSE NEIGHBOUR: 'it returns false'. Refute it at one input. -/
def shortestCertifiesWrong : ChangeSpec := { name := "shortestCertifies", fn := fun _ => fun
  | [d1, d2, d3] => { results := [.lit (.bool false)], args := [d1, d2, d3] }
  | _ => none }
def ShortestCertifiesWrongFalsely : Prop := shortestCertifiesRow.holds Tryz.pinned (OpenSpec.ofChange shortestCertifiesWrong)

/-- 'viatorlaw21.ShortestChanged': WHATEVER THE INPUT: true; the input reads as it did. -/
def shortestChangedSpec : ChangeSpec := { name := "shortestChanged", fn := fun _ => fun
  | [d1, d2] => { results := [.lit (.bool true)], args := [d1, d2] }
  | _ => none }
def shortestChangedRow : OpenClaim := { program := "ytopfgkbpakfccaagreatdoor", sum := "ce7a9aa2e81df56dcb6467cf6287f0b5a738d1de287d4d301ac44fc1169a7f1c", func := "viator/viatorlaw21.ShortestChanged", spec := "shortestChanged", inPlace := ["internal/bytealg.abigen_runtime_cmpstring", "internal/bytealg.IndexByteString", "internal/bytealg.IndexString", "math/bits.Add64"], unfollowed := true, recurses := true, named := ["unicode/utf8.first", "unicode/utf8.acceptRanges", "internal/bytealg.MaxLen"], apart := false, laid := [("unicode/utf8.acceptRanges", laid_unicode_utf8_acceptRanges), ("unicode/utf8.first", laid_unicode_utf8_first)] }
def ShortestChangedSaid : Prop := shortestChangedRow.holds Tryz.pinned (OpenSpec.ofChange shortestChangedSpec)

/-- ITS FALSE NEIGHBOUR: 'it returns false'. Refute it at one input. -/
def shortestChangedWrong : ChangeSpec := { name := "shortestChanged", fn := fun _ => fun
  | [d1, d2] => { results := [.lit (.bool false)], args := [d1, d2] }
  | _ => none }
def ShortestChangedWrongFalsely : Prop := shortestChangedRow.holds Tryz.pinned (OpenSpec.ofChange shortestChangedWrong)

/-- 'viatorlaw21.ShortestAlong': WHATEVER THE INPUT: true; the input reads as it did. -/
def shortestAlongSpec : ChangeSpec := { name := "shortestAlong", fn := fun _ => fun
  | [d1, d2, d3] => { results := [.lit (.bool true)], args := [d1, d2, d3] }
  | _ => none }
def shortestAlongRow : OpenClaim := { program := "ytopfgkbpakfccaagreatdoor", sum := "ce7a9aa2e81df56dcb6467cf6287f0b5a738d1de287d4d301ac44fc1169a7f1c", func := "viator/viatorlaw21.ShortestAlong", spec := "shortestAlong", inPlace := ["internal/bytealg.abigen_runtime_cmpstring", "internal/bytealg.IndexByteString", "internal/bytealg.IndexString", "math/bits.Add64"], unfollowed := true, recurses := true, named := ["unicode/utf8.first", "unicode/utf8.acceptRanges", "internal/bytealg.MaxLen"], apart := false, laid := [("unicode/utf8.acceptRanges", laid_unicode_utf8_acceptRanges), ("unicode/utf8.first", laid_unicode_utf8_first)] }
def ShortestAlongSaid : Prop := shortestAlongRow.holds Tryz.pinned (OpenSpec.ofChange shortestAlongSpec)

/-- ITS FALSE NEIGHBOUR: 'it returns false'. Refute it at one input. -/
def shortestAlongWrong : ChangeSpec := { name := "shortestAlong", fn := fun _ => fun
  | [d1, d2, d3] => { results := [.lit (.bool false)], args := [d1, d2, d3] }
  | _ => none }
def ShortestAlongWrongFalsely : Prop := shortestAlongRow.holds Tryz.pinned (OpenSpec.ofChange shortestAlongWrong)

/-- 'viatorlaw21.ShortestBetween': WHATEVER THE INPUT: true; the input reads as it did. -/
def shortestBetweenSpec : ChangeSpec := { name := "shortestBetween", fn := fun _ => fun
  | [d1, d2, d3] => { results := [.lit (.bool true)], args := [d1, d2, d3] }
  | _ => none }
def shortestBetweenRow : OpenClaim := { program := "ytopfgkbpakfccaagreatdoor", sum := "ce7a9aa2e81df56dcb6467cf6287f0b5a738d1de287d4d301ac44fc1169a7f1c", func := "viator/viatorlaw21.ShortestBetween", spec := "shortestBetween", inPlace := ["internal/bytealg.abigen_runtime_cmpstring", "internal/bytealg.IndexByteString", "internal/bytealg.IndexString", "math/bits.Add64"], unfollowed := true, recurses := true, named := ["unicode/utf8.first", "unicode/utf8.acceptRanges", "internal/bytealg.MaxLen"], apart := false, laid := [("unicode/utf8.acceptRanges", laid_unicode_utf8_acceptRanges), ("unicode/utf8.first", laid_unicode_utf8_first)] }
def ShortestBetweenSaid : Prop := shortestBetweenRow.holds Tryz.pinned (OpenSpec.ofChange shortestBetweenSpec)

/-- ITS FALSE NEIGHBOUR: 'it returns false'. Refute it at one input. -/
def shortestBetweenWrong : ChangeSpec := { name := "shortestBetween", fn := fun _ => fun
  | [d1, d2, d3] => { results := [.lit (.bool false)], args := [d1, d2, d3] }
  | _ => none }
def ShortestBetweenWrongFalsely : Prop := shortestBetweenRow.holds Tryz.pinned (OpenSpec.ofChange shortestBetweenWrong)

/-- 'viatorlaw21.ShortestChecks': WHATEVER THE INPUT: true; the input reads as it did. -/
def shortestChecksSpec : ChangeSpec := { name := "shortestChecks", fn := fun _ => fun
  | [d1, d2, d3] => { results := [.lit (.bool true)], args := [d1, d2, d3] }
  | _ => none }
def shortestChecksRow : OpenClaim := { program := "ytopfgkbpakfccaagreatdoor", sum := "ce7a9aa2e81df56dcb6467cf6287f0b5a738d1de287d4d301ac44fc1169a7f1c", func := "viator/viatorlaw21.ShortestChecks", spec := "shortestChecks", inPlace := ["internal/bytealg.abigen_runtime_cmpstring", "internal/bytealg.IndexByteString", "internal/bytealg.IndexString", "math/bits.Add64"], unfollowed := true, recurses := true, named := ["unicode/utf8.first", "unicode/utf8.acceptRanges", "internal/bytealg.MaxLen"], apart := false, laid := [("unicode/utf8.acceptRanges", laid_unicode_utf8_acceptRanges), ("unicode/utf8.first", laid_unicode_utf8_first)] }
def ShortestChecksSaid : Prop := shortestChecksRow.holds Tryz.pinned (OpenSpec.ofChange shortestChecksSpec)

/-- ITS FALSE NEIGHBOUR: 'it returns false'. Refute it at one input. -/
def shortestChecksWrong : ChangeSpec := { name := "shortestChecks", fn := fun _ => fun
  | [d1, d2, d3] => { results := [.lit (.bool false)], args := [d1, d2, d3] }
  | _ => none }
def ShortestChecksWrongFalsely : Prop := shortestChecksRow.holds Tryz.pinned (OpenSpec.ofChange shortestChecksWrong)

/-- 'viatorlaw21.ShortestWithin': WHATEVER THE INPUT: true; the input reads as it did. -/
def shortestWithinSpec : ChangeSpec := { name := "shortestWithin", fn := fun _ => fun
  | [d1, d2, d3] => { results := [.lit (.bool true)], args := [d1, d2, d3] }
  | _ => none }
def shortestWithinRow : OpenClaim := { program := "ytopfgkbpakfccaagreatdoor", sum := "ce7a9aa2e81df56dcb6467cf6287f0b5a738d1de287d4d301ac44fc1169a7f1c", func := "viator/viatorlaw21.ShortestWithin", spec := "shortestWithin", inPlace := ["internal/bytealg.abigen_runtime_cmpstring", "internal/bytealg.IndexByteString", "internal/bytealg.IndexString", "math/bits.Add64"], unfollowed := true, recurses := true, named := ["unicode/utf8.first", "unicode/utf8.acceptRanges", "internal/bytealg.MaxLen"], apart := false, laid := [("unicode/utf8.acceptRanges", laid_unicode_utf8_acceptRanges), ("unicode/utf8.first", laid_unicode_utf8_first)] }
def ShortestWithinSaid : Prop := shortestWithinRow.holds Tryz.pinned (OpenSpec.ofChange shortestWithinSpec)

/-- ITS FALSE NEIGHBOUR: 'it returns false'. Refute it at one input. -/
def shortestWithinWrong : ChangeSpec := { name := "shortestWithin", fn := fun _ => fun
  | [d1, d2, d3] => { results := [.lit (.bool false)], args := [d1, d2, d3] }
  | _ => none }
def ShortestWithinWrongFalsely : Prop := shortestWithinRow.holds Tryz.pinned (OpenSpec.ofChange shortestWithinWrong)

/- THE SECOND FORM. 'bulk': how many values and letters a reading holds, each counted each time it is reached (what is shared counts as often as it is met; a slice's spare places count too). A statement '..UptoSaid' is the law's where the arguments, and the package variables that the reading takes, are together of bulk at most 1048576: NARROWER than '..Said'. Prove '..Said' where nothing that the law and all that it calls make is longer than what came in: it says more and counts as full. Else prove '..UptoSaid'. A law counts once. -/
mutual
def uptoBulk {H : Type} : DataW H → Nat
  | .lit (.string bytes) => bytes.length + 1
  | .lit _ => 1
  | .nil => 1
  | .ptr d => uptoBulk d + 1
  | .slice elems spare => uptoBulkAll elems + uptoBulkAll spare + 1
  | .agg parts => uptoBulkAll parts + 1
  | .iface _ d => uptoBulk d + 1
  | .map entries => uptoBulkEntries entries + 1
  | .held _ => 1
def uptoBulkAll {H : Type} : List (DataW H) → Nat
  | [] => 0
  | d :: r => uptoBulk d + uptoBulkAll r
def uptoBulkEntries {H : Type} : List (Lit × DataW H) → Nat
  | [] => 0
  | x :: r => uptoBulkEntry x + uptoBulkEntries r
def uptoBulkEntry {H : Type} : Lit × DataW H → Nat
  | (.string bytes, d) => bytes.length + uptoBulk d + 1
  | (_, d) => uptoBulk d + 1
 end
def uptoSmall : (H : Type) → List (DataW H) → Bool := fun _ ds => decide (uptoBulkAll ds ≤ 1048576)
def OpenSpec.upto (s : _root_.Go.ChangeSpec) : _root_.Go.OpenSpec := { _root_.Go.OpenSpec.ofChange s with cond := some uptoSmall }

/-- 'viatorlaw21.ShortestRoutes', WHERE WHAT IT READS IS OF BULK AT MOST 1048576: true; the input reads as it did. -/
def shortestRoutesUptoRow : OpenClaim := { program := "ytopfgkbpakfccaagreatdoor", sum := "ce7a9aa2e81df56dcb6467cf6287f0b5a738d1de287d4d301ac44fc1169a7f1c", func := "viator/viatorlaw21.ShortestRoutes", spec := "shortestRoutes", inPlace := ["internal/bytealg.abigen_runtime_cmpstring", "internal/bytealg.IndexByteString", "internal/bytealg.IndexString", "math/bits.Add64"], unfollowed := true, recurses := true, named := ["unicode/utf8.first", "unicode/utf8.acceptRanges", "internal/bytealg.MaxLen"], apart := false, laid := [("unicode/utf8.acceptRanges", laid_unicode_utf8_acceptRanges), ("unicode/utf8.first", laid_unicode_utf8_first)], narrowed := true }
def ShortestRoutesUptoSaid : Prop := shortestRoutesUptoRow.holds Tryz.pinned (OpenSpec.upto shortestRoutesSpec)

/-- 'viatorlaw21.ShortestNodes', WHERE WHAT IT READS IS OF BULK AT MOST 1048576: true; the input reads as it did. -/
def shortestNodesUptoRow : OpenClaim := { program := "ytopfgkbpakfccaagreatdoor", sum := "ce7a9aa2e81df56dcb6467cf6287f0b5a738d1de287d4d301ac44fc1169a7f1c", func := "viator/viatorlaw21.ShortestNodes", spec := "shortestNodes", inPlace := ["internal/bytealg.abigen_runtime_cmpstring", "internal/bytealg.IndexByteString", "internal/bytealg.IndexString", "math/bits.Add64"], unfollowed := true, recurses := true, named := ["unicode/utf8.first", "unicode/utf8.acceptRanges", "internal/bytealg.MaxLen"], apart := false, laid := [("unicode/utf8.acceptRanges", laid_unicode_utf8_acceptRanges), ("unicode/utf8.first", laid_unicode_utf8_first)], narrowed := true }
def ShortestNodesUptoSaid : Prop := shortestNodesUptoRow.holds Tryz.pinned (OpenSpec.upto shortestNodesSpec)

/-- 'viatorlaw21.ShortestTriangle', WHERE WHAT IT READS IS OF BULK AT MOST 1048576: true; the input reads as it did. -/
def shortestTriangleUptoRow : OpenClaim := { program := "ytopfgkbpakfccaagreatdoor", sum := "ce7a9aa2e81df56dcb6467cf6287f0b5a738d1de287d4d301ac44fc1169a7f1c", func := "viator/viatorlaw21.ShortestTriangle", spec := "shortestTriangle", inPlace := ["internal/bytealg.abigen_runtime_cmpstring", "internal/bytealg.IndexByteString", "internal/bytealg.IndexString", "math/bits.Add64"], unfollowed := true, recurses := true, named := ["unicode/utf8.first", "unicode/utf8.acceptRanges", "internal/bytealg.MaxLen"], apart := false, laid := [("unicode/utf8.acceptRanges", laid_unicode_utf8_acceptRanges), ("unicode/utf8.first", laid_unicode_utf8_first)], narrowed := true }
def ShortestTriangleUptoSaid : Prop := shortestTriangleUptoRow.holds Tryz.pinned (OpenSpec.upto shortestTriangleSpec)

/-- 'viatorlaw21.ShortestReverses', WHERE WHAT IT READS IS OF BULK AT MOST 1048576: true; the input reads as it did. -/
def shortestReversesUptoRow : OpenClaim := { program := "ytopfgkbpakfccaagreatdoor", sum := "ce7a9aa2e81df56dcb6467cf6287f0b5a738d1de287d4d301ac44fc1169a7f1c", func := "viator/viatorlaw21.ShortestReverses", spec := "shortestReverses", inPlace := ["internal/bytealg.abigen_runtime_cmpstring", "internal/bytealg.IndexByteString", "internal/bytealg.IndexString", "math/bits.Add64"], unfollowed := true, recurses := true, named := ["unicode/utf8.first", "unicode/utf8.acceptRanges", "internal/bytealg.MaxLen"], apart := false, laid := [("unicode/utf8.acceptRanges", laid_unicode_utf8_acceptRanges), ("unicode/utf8.first", laid_unicode_utf8_first)], narrowed := true }
def ShortestReversesUptoSaid : Prop := shortestReversesUptoRow.holds Tryz.pinned (OpenSpec.upto shortestReversesSpec)

/-- 'viatorlaw21.ShortestLengths', WHERE WHAT IT READS IS OF BULK AT MOST 1048576: true; the input reads as it did. -/
def shortestLengthsUptoRow : OpenClaim := { program := "ytopfgkbpakfccaagreatdoor", sum := "ce7a9aa2e81df56dcb6467cf6287f0b5a738d1de287d4d301ac44fc1169a7f1c", func := "viator/viatorlaw21.ShortestLengths", spec := "shortestLengths", inPlace := ["internal/bytealg.abigen_runtime_cmpstring", "internal/bytealg.IndexByteString", "internal/bytealg.IndexString", "math/bits.Add64"], unfollowed := true, recurses := true, named := ["unicode/utf8.first", "unicode/utf8.acceptRanges", "internal/bytealg.MaxLen"], apart := false, laid := [("unicode/utf8.acceptRanges", laid_unicode_utf8_acceptRanges), ("unicode/utf8.first", laid_unicode_utf8_first)], narrowed := true }
def ShortestLengthsUptoSaid : Prop := shortestLengthsUptoRow.holds Tryz.pinned (OpenSpec.upto shortestLengthsSpec)

/-- 'viatorlaw21.ShortestCertifies', WHERE WHAT IT READS IS OF BULK AT MOST 1048576: true; the input reads as it did. -/
def shortestCertifiesUptoRow : OpenClaim := { program := "ytopfgkbpakfccaagreatdoor", sum := "ce7a9aa2e81df56dcb6467cf6287f0b5a738d1de287d4d301ac44fc1169a7f1c", func := "viator/viatorlaw21.ShortestCertifies", spec := "shortestCertifies", inPlace := ["internal/bytealg.abigen_runtime_cmpstring", "internal/bytealg.IndexByteString", "internal/bytealg.IndexString", "math/bits.Add64"], unfollowed := true, recurses := true, named := ["unicode/utf8.first", "unicode/utf8.acceptRanges", "internal/bytealg.MaxLen"], apart := false, laid := [("unicode/utf8.acceptRanges", laid_unicode_utf8_acceptRanges), ("unicode/utf8.first", laid_unicode_utf8_first)], narrowed := true }
def ShortestCertifiesUptoSaid : Prop := shortestCertifiesUptoRow.holds Tryz.pinned (OpenSpec.upto shortestCertifiesSpec)

/-- 'viatorlaw21.ShortestChanged', WHERE WHAT IT READS IS OF BULK AT MOST 1048576: true; the input reads as it did. -/
def shortestChangedUptoRow : OpenClaim := { program := "ytopfgkbpakfccaagreatdoor", sum := "ce7a9aa2e81df56dcb6467cf6287f0b5a738d1de287d4d301ac44fc1169a7f1c", func := "viator/viatorlaw21.ShortestChanged", spec := "shortestChanged", inPlace := ["internal/bytealg.abigen_runtime_cmpstring", "internal/bytealg.IndexByteString", "internal/bytealg.IndexString", "math/bits.Add64"], unfollowed := true, recurses := true, named := ["unicode/utf8.first", "unicode/utf8.acceptRanges", "internal/bytealg.MaxLen"], apart := false, laid := [("unicode/utf8.acceptRanges", laid_unicode_utf8_acceptRanges), ("unicode/utf8.first", laid_unicode_utf8_first)], narrowed := true }
def ShortestChangedUptoSaid : Prop := shortestChangedUptoRow.holds Tryz.pinned (OpenSpec.upto shortestChangedSpec)

/-- 'viatorlaw21.ShortestAlong', WHERE WHAT IT READS IS OF BULK AT MOST 1048576: true; the input reads as it did. -/
def shortestAlongUptoRow : OpenClaim := { program := "ytopfgkbpakfccaagreatdoor", sum := "ce7a9aa2e81df56dcb6467cf6287f0b5a738d1de287d4d301ac44fc1169a7f1c", func := "viator/viatorlaw21.ShortestAlong", spec := "shortestAlong", inPlace := ["internal/bytealg.abigen_runtime_cmpstring", "internal/bytealg.IndexByteString", "internal/bytealg.IndexString", "math/bits.Add64"], unfollowed := true, recurses := true, named := ["unicode/utf8.first", "unicode/utf8.acceptRanges", "internal/bytealg.MaxLen"], apart := false, laid := [("unicode/utf8.acceptRanges", laid_unicode_utf8_acceptRanges), ("unicode/utf8.first", laid_unicode_utf8_first)], narrowed := true }
def ShortestAlongUptoSaid : Prop := shortestAlongUptoRow.holds Tryz.pinned (OpenSpec.upto shortestAlongSpec)

/-- 'viatorlaw21.ShortestBetween', WHERE WHAT IT READS IS OF BULK AT MOST 1048576: true; the input reads as it did. -/
def shortestBetweenUptoRow : OpenClaim := { program := "ytopfgkbpakfccaagreatdoor", sum := "ce7a9aa2e81df56dcb6467cf6287f0b5a738d1de287d4d301ac44fc1169a7f1c", func := "viator/viatorlaw21.ShortestBetween", spec := "shortestBetween", inPlace := ["internal/bytealg.abigen_runtime_cmpstring", "internal/bytealg.IndexByteString", "internal/bytealg.IndexString", "math/bits.Add64"], unfollowed := true, recurses := true, named := ["unicode/utf8.first", "unicode/utf8.acceptRanges", "internal/bytealg.MaxLen"], apart := false, laid := [("unicode/utf8.acceptRanges", laid_unicode_utf8_acceptRanges), ("unicode/utf8.first", laid_unicode_utf8_first)], narrowed := true }
def ShortestBetweenUptoSaid : Prop := shortestBetweenUptoRow.holds Tryz.pinned (OpenSpec.upto shortestBetweenSpec)

/-- 'viatorlaw21.ShortestChecks', WHERE WHAT IT READS IS OF BULK AT MOST 1048576: true; the input reads as it did. -/
def shortestChecksUptoRow : OpenClaim := { program := "ytopfgkbpakfccaagreatdoor", sum := "ce7a9aa2e81df56dcb6467cf6287f0b5a738d1de287d4d301ac44fc1169a7f1c", func := "viator/viatorlaw21.ShortestChecks", spec := "shortestChecks", inPlace := ["internal/bytealg.abigen_runtime_cmpstring", "internal/bytealg.IndexByteString", "internal/bytealg.IndexString", "math/bits.Add64"], unfollowed := true, recurses := true, named := ["unicode/utf8.first", "unicode/utf8.acceptRanges", "internal/bytealg.MaxLen"], apart := false, laid := [("unicode/utf8.acceptRanges", laid_unicode_utf8_acceptRanges), ("unicode/utf8.first", laid_unicode_utf8_first)], narrowed := true }
def ShortestChecksUptoSaid : Prop := shortestChecksUptoRow.holds Tryz.pinned (OpenSpec.upto shortestChecksSpec)

/-- 'viatorlaw21.ShortestWithin', WHERE WHAT IT READS IS OF BULK AT MOST 1048576: true; the input reads as it did. -/
def shortestWithinUptoRow : OpenClaim := { program := "ytopfgkbpakfccaagreatdoor", sum := "ce7a9aa2e81df56dcb6467cf6287f0b5a738d1de287d4d301ac44fc1169a7f1c", func := "viator/viatorlaw21.ShortestWithin", spec := "shortestWithin", inPlace := ["internal/bytealg.abigen_runtime_cmpstring", "internal/bytealg.IndexByteString", "internal/bytealg.IndexString", "math/bits.Add64"], unfollowed := true, recurses := true, named := ["unicode/utf8.first", "unicode/utf8.acceptRanges", "internal/bytealg.MaxLen"], apart := false, laid := [("unicode/utf8.acceptRanges", laid_unicode_utf8_acceptRanges), ("unicode/utf8.first", laid_unicode_utf8_first)], narrowed := true }
def ShortestWithinUptoSaid : Prop := shortestWithinUptoRow.holds Tryz.pinned (OpenSpec.upto shortestWithinSpec)

end Rows
end Go.Proofs.YtopfgkbpakfccaaGreatDoor
