/-
  No cell of these rows narrows 'for every input' (looked for: loops, veiled, ifaces, maps, wideKeys, modest, calm, conditions, laid).
  DERIVED. THE GIVEN ROWS OF THIS SEAT. 6 by the template 'for every input the law returns true; each argument reads behind the call as it read before'; 0 by the template 'total and deterministic' (their statements: YtneagipmllgejaaTotals.lean).
  GIVEN WITH THE SEED: the statements are not yours to turn. If you find one false, say at which input.
  Laid BY PROGRAM, IN A SANDBOX (cutbox-rows.mjs): the forced cells as the released guide's own fill.sh prints them over the translation aeea9cde48e27c13… (all of the seat's roots in one cut). By AI agents, Wed Nov 11 2026. No macro, syntax, notation, axiom, sorry.
-/
import Derived.Test.YtneagipmllgejaaChecked
import GoSem.Claim
import GoSem.ClaimJoined
import GoSem.ClaimMapViews
import Derived.JoinedTies
import Derived.KernelRfl
namespace Go.Proofs.Ytneagipmllgejaa
/- THE CELL 'sum', in the pinned program and in every row, IS THE sha256 OF THE DUMP (.gsa) THAT YtneagipmllgejaaProg.lean LOADS. Nothing in Lean hashes anything: it is a label: what it is worth is what the hold of that sum in a sandbox is worth. -/
noncomputable def Try.pinned : Pinned := { name := "ytneagipmllgejaa", sum := "aeea9cde48e27c130923941031ede9d88307e1ff0778f4efd5ff71e9b2d56f25", checked := Try.checked }
namespace Rows
def none {H : Type} : Left H := { results := [], args := [] }

/-- 'cobweblaw11.LeafSpans': WHATEVER THE INPUT: true; the input reads as it did. -/
def leafSpansSpec : ChangeSpec := { name := "leafSpans", fn := fun _ => fun
  | [d1, d2, d3] => { results := [.lit (.bool true)], args := [d1, d2, d3] }
  | _ => none }
def leafSpansRow : OpenClaim := { program := "ytneagipmllgejaa", sum := "aeea9cde48e27c130923941031ede9d88307e1ff0778f4efd5ff71e9b2d56f25", func := "cobweb/cobweblaw11.LeafSpans", spec := "leafSpans", inPlace := ["slices.overlaps[string]", "slices.overlaps[int]"], apart := false }
def LeafSpansSaid : Prop := leafSpansRow.holds Try.pinned (OpenSpec.ofChange leafSpansSpec)

/-- ITS FALSE NEIGHBOUR: 'it returns false'. Refute it at one input. -/
def leafSpansWrong : ChangeSpec := { name := "leafSpans", fn := fun _ => fun
  | [d1, d2, d3] => { results := [.lit (.bool false)], args := [d1, d2, d3] }
  | _ => none }
def LeafSpansWrongFalsely : Prop := leafSpansRow.holds Try.pinned (OpenSpec.ofChange leafSpansWrong)

/-- 'cobweblaw11.LeafChanges': WHATEVER THE INPUT: true; the input reads as it did. -/
def leafChangesSpec : ChangeSpec := { name := "leafChanges", fn := fun _ => fun
  | [d1, d2, d3] => { results := [.lit (.bool true)], args := [d1, d2, d3] }
  | _ => none }
def leafChangesRow : OpenClaim := { program := "ytneagipmllgejaa", sum := "aeea9cde48e27c130923941031ede9d88307e1ff0778f4efd5ff71e9b2d56f25", func := "cobweb/cobweblaw11.LeafChanges", spec := "leafChanges", inPlace := ["slices.overlaps[string]", "slices.overlaps[int]"], apart := false }
def LeafChangesSaid : Prop := leafChangesRow.holds Try.pinned (OpenSpec.ofChange leafChangesSpec)

/-- ITS FALSE NEIGHBOUR: 'it returns false'. Refute it at one input. -/
def leafChangesWrong : ChangeSpec := { name := "leafChanges", fn := fun _ => fun
  | [d1, d2, d3] => { results := [.lit (.bool false)], args := [d1, d2, d3] }
  | _ => none }
def LeafChangesWrongFalsely : Prop := leafChangesRow.holds Try.pinned (OpenSpec.ofChange leafChangesWrong)

/-- 'cobweblaw11.LeafTurns': WHATEVER THE INPUT: true; the input reads as it did. -/
def leafTurnsSpec : ChangeSpec := { name := "leafTurns", fn := fun _ => fun
  | [d1, d2] => { results := [.lit (.bool true)], args := [d1, d2] }
  | _ => none }
def leafTurnsRow : OpenClaim := { program := "ytneagipmllgejaa", sum := "aeea9cde48e27c130923941031ede9d88307e1ff0778f4efd5ff71e9b2d56f25", func := "cobweb/cobweblaw11.LeafTurns", spec := "leafTurns", inPlace := ["slices.overlaps[string]", "slices.overlaps[int]"], apart := false }
def LeafTurnsSaid : Prop := leafTurnsRow.holds Try.pinned (OpenSpec.ofChange leafTurnsSpec)

/-- ITS FALSE NEIGHBOUR: 'it returns false'. Refute it at one input. -/
def leafTurnsWrong : ChangeSpec := { name := "leafTurns", fn := fun _ => fun
  | [d1, d2] => { results := [.lit (.bool false)], args := [d1, d2] }
  | _ => none }
def LeafTurnsWrongFalsely : Prop := leafTurnsRow.holds Try.pinned (OpenSpec.ofChange leafTurnsWrong)

/-- 'cobweblaw11.LeafFinds': WHATEVER THE INPUT: true; the input reads as it did. -/
def leafFindsSpec : ChangeSpec := { name := "leafFinds", fn := fun _ => fun
  | [d1, d2, d3] => { results := [.lit (.bool true)], args := [d1, d2, d3] }
  | _ => none }
def leafFindsRow : OpenClaim := { program := "ytneagipmllgejaa", sum := "aeea9cde48e27c130923941031ede9d88307e1ff0778f4efd5ff71e9b2d56f25", func := "cobweb/cobweblaw11.LeafFinds", spec := "leafFinds", inPlace := ["slices.overlaps[string]", "slices.overlaps[int]"], unfollowed := true, recurses := true, apart := false }
def LeafFindsSaid : Prop := leafFindsRow.holds Try.pinned (OpenSpec.ofChange leafFindsSpec)

/-- ITS FALSE NEIGHBOUR: 'it returns false'. Refute it at one input. -/
def leafFindsWrong : ChangeSpec := { name := "leafFinds", fn := fun _ => fun
  | [d1, d2, d3] => { results := [.lit (.bool false)], args := [d1, d2, d3] }
  | _ => none }
def LeafFindsWrongFalsely : Prop := leafFindsRow.holds Try.pinned (OpenSpec.ofChange leafFindsWrong)

/-- 'cobweblaw11.LeafActs': WHATEVER THE INPUT: true; the input reads as it did. -/
def leafActsSpec : ChangeSpec := { name := "leafActs", fn := fun _ => fun
  | [d] => { results := [.lit (.bool true)], args := [d] }
  | _ => none }
def leafActsRow : OpenClaim := { program := "ytneagipmllgejaa", sum := "aeea9cde48e27c130923941031ede9d88307e1ff0778f4efd5ff71e9b2d56f25", func := "cobweb/cobweblaw11.LeafActs", spec := "leafActs", inPlace := ["slices.overlaps[string]", "slices.overlaps[int]"], unfollowed := true, recurses := true, apart := false }
def LeafActsSaid : Prop := leafActsRow.holds Try.pinned (OpenSpec.ofChange leafActsSpec)

/-- ITS FALSE NEIGHBOUR: 'it returns false'. Refute it at one input. -/
def leafActsWrong : ChangeSpec := { name := "leafActs", fn := fun _ => fun
  | [d] => { results := [.lit (.bool false)], args := [d] }
  | _ => none }
def LeafActsWrongFalsely : Prop := leafActsRow.holds Try.pinned (OpenSpec.ofChange leafActsWrong)

/-- 'cobweblaw11.LeafBytes': WHATEVER THE INPUT: true; the input reads as it did. -/
def leafBytesSpec : ChangeSpec := { name := "leafBytes", fn := fun _ => fun
  | [d1, d2, d3] => { results := [.lit (.bool true)], args := [d1, d2, d3] }
  | _ => none }
def leafBytesRow : OpenClaim := { program := "ytneagipmllgejaa", sum := "aeea9cde48e27c130923941031ede9d88307e1ff0778f4efd5ff71e9b2d56f25", func := "cobweb/cobweblaw11.LeafBytes", spec := "leafBytes", inPlace := ["slices.overlaps[string]", "slices.overlaps[int]"], unfollowed := true, recurses := true, apart := false }
def LeafBytesSaid : Prop := leafBytesRow.holds Try.pinned (OpenSpec.ofChange leafBytesSpec)

/-- ITS FALSE NEIGHBOUR: 'it returns false'. Refute it at one input. -/
def leafBytesWrong : ChangeSpec := { name := "leafBytes", fn := fun _ => fun
  | [d1, d2, d3] => { results := [.lit (.bool false)], args := [d1, d2, d3] }
  | _ => none }
def LeafBytesWrongFalsely : Prop := leafBytesRow.holds Try.pinned (OpenSpec.ofChange leafBytesWrong)

/- THE SECOND FORM. 'bulk': how many values and letters a reading holds, each counted each time it is reached (what is shared counts as often as it is met; a slice's spare places count too). A statement '..UptoSaid' is the law's where the arguments, and the package variables that the reading takes, are together of bulk at most 1048576: NARROWER than '..Said'. Prove '..Said' where nothing that the law and all that it calls make is longer than what came in: it says more and counts as full. Else prove '..UptoSaid'. A law counts once. -/
mutual
def uptoBulk {H : Type} : DataW H → Nat
  | .lit (.string bytes) => bytes.length + 1
  | .lit _ => 1
  | .nil => 1
  | .ptr d => uptoBulk d + 1
  | .slice elems spare => uptoBulkAll elems + uptoBulkAll spare + 1
  | .agg parts => uptoBulkAll parts + 1
  | .iface _ d => uptoBulk d + 1
  | .map entries => uptoBulkEntries entries + 1
  | .held _ => 1
def uptoBulkAll {H : Type} : List (DataW H) → Nat
  | [] => 0
  | d :: r => uptoBulk d + uptoBulkAll r
def uptoBulkEntries {H : Type} : List (Lit × DataW H) → Nat
  | [] => 0
  | x :: r => uptoBulkEntry x + uptoBulkEntries r
def uptoBulkEntry {H : Type} : Lit × DataW H → Nat
  | (.string bytes, d) => bytes.length + uptoBulk d + 1
  | (_, d) => uptoBulk d + 1
 end
def uptoSmall : (H : Type) → List (DataW H) → Bool := fun _ ds => decide (uptoBulkAll ds ≤ 1048576)
def OpenSpec.upto (s : _root_.Go.ChangeSpec) : _root_.Go.OpenSpec := { _root_.Go.OpenSpec.ofChange s with cond := some uptoSmall }

/-- 'cobweblaw11.LeafSpans', WHERE WHAT IT READS IS OF BULK AT MOST 1048576: true; the input reads as it did. -/
def leafSpansUptoRow : OpenClaim := { program := "ytneagipmllgejaa", sum := "aeea9cde48e27c130923941031ede9d88307e1ff0778f4efd5ff71e9b2d56f25", func := "cobweb/cobweblaw11.LeafSpans", spec := "leafSpans", inPlace := ["slices.overlaps[string]", "slices.overlaps[int]"], apart := false, narrowed := true }
def LeafSpansUptoSaid : Prop := leafSpansUptoRow.holds Try.pinned (OpenSpec.upto leafSpansSpec)

/-- 'cobweblaw11.LeafChanges', WHERE WHAT IT READS IS OF BULK AT MOST 1048576: true; the input reads as it did. -/
def leafChangesUptoRow : OpenClaim := { program := "ytneagipmllgejaa", sum := "aeea9cde48e27c130923941031ede9d88307e1ff0778f4efd5ff71e9b2d56f25", func := "cobweb/cobweblaw11.LeafChanges", spec := "leafChanges", inPlace := ["slices.overlaps[string]", "slices.overlaps[int]"], apart := false, narrowed := true }
def LeafChangesUptoSaid : Prop := leafChangesUptoRow.holds Try.pinned (OpenSpec.upto leafChangesSpec)

/-- 'cobweblaw11.LeafTurns', WHERE WHAT IT READS IS OF BULK AT MOST 1048576: true; the input reads as it did. -/
def leafTurnsUptoRow : OpenClaim := { program := "ytneagipmllgejaa", sum := "aeea9cde48e27c130923941031ede9d88307e1ff0778f4efd5ff71e9b2d56f25", func := "cobweb/cobweblaw11.LeafTurns", spec := "leafTurns", inPlace := ["slices.overlaps[string]", "slices.overlaps[int]"], apart := false, narrowed := true }
def LeafTurnsUptoSaid : Prop := leafTurnsUptoRow.holds Try.pinned (OpenSpec.upto leafTurnsSpec)

/-- 'cobweblaw11.LeafFinds', WHERE WHAT IT READS IS OF BULK AT MOST 1048576: true; the input reads as it did. -/
def leafFindsUptoRow : OpenClaim := { program := "ytneagipmllgejaa", sum := "aeea9cde48e27c130923941031ede9d88307e1ff0778f4efd5ff71e9b2d56f25", func := "cobweb/cobweblaw11.LeafFinds", spec := "leafFinds", inPlace := ["slices.overlaps[string]", "slices.overlaps[int]"], unfollowed := true, recurses := true, apart := false, narrowed := true }
def LeafFindsUptoSaid : Prop := leafFindsUptoRow.holds Try.pinned (OpenSpec.upto leafFindsSpec)

/-- 'cobweblaw11.LeafActs', WHERE WHAT IT READS IS OF BULK AT MOST 1048576: true; the input reads as it did. -/
def leafActsUptoRow : OpenClaim := { program := "ytneagipmllgejaa", sum := "aeea9cde48e27c130923941031ede9d88307e1ff0778f4efd5ff71e9b2d56f25", func := "cobweb/cobweblaw11.LeafActs", spec := "leafActs", inPlace := ["slices.overlaps[string]", "slices.overlaps[int]"], unfollowed := true, recurses := true, apart := false, narrowed := true }
def LeafActsUptoSaid : Prop := leafActsUptoRow.holds Try.pinned (OpenSpec.upto leafActsSpec)

/-- 'cobweblaw11.LeafBytes', WHERE WHAT IT READS IS OF BULK AT MOST 1048576: true; the input reads as it did. -/
def leafBytesUptoRow : OpenClaim := { program := "ytneagipmllgejaa", sum := "aeea9cde48e27c130923941031ede9d88307e1ff0778f4efd5ff71e9b2d56f25", func := "cobweb/cobweblaw11.LeafBytes", spec := "leafBytes", inPlace := ["slices.overlaps[string]", "slices.overlaps[int]"], unfollowed := true, recurses := true, apart := false, narrowed := true }
def LeafBytesUptoSaid : Prop := leafBytesUptoRow.holds Try.pinned (OpenSpec.upto leafBytesSpec)

end Rows
end Go.Proofs.Ytneagipmllgejaa
