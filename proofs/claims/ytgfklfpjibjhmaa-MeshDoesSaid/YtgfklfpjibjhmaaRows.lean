/-
  No cell of these rows narrows 'for every input' (looked for: loops, veiled, ifaces, maps, wideKeys, modest, calm, conditions, laid).
  DERIVED. THE GIVEN ROWS OF THIS SEAT. 5 by the template 'for every input the law returns true; each argument reads behind the call as it read before'; 0 by the template 'total and deterministic' (their statements: YtgfklfpjibjhmaaTotals.lean).
  GIVEN WITH THE SEED: the statements are not yours to turn. If you find one false, say at which input.
  Laid BY PROGRAM, IN A SANDBOX (cutbox-rows.mjs): the forced cells as the released guide's own fill.sh prints them over the translation 7eb5fc705b127438… (all of the seat's roots in one cut). By AI agents, Wed Nov 11 2026. No macro, syntax, notation, axiom, sorry.
-/
import Derived.Test.YtgfklfpjibjhmaaChecked
import GoSem.Claim
import GoSem.ClaimJoined
import GoSem.ClaimMapViews
import Derived.JoinedTies
import Derived.KernelRfl
namespace Go.Proofs.Ytgfklfpjibjhmaa
/- THE CELL 'sum', in the pinned program and in every row, IS THE sha256 OF THE DUMP (.gsa) THAT YtgfklfpjibjhmaaProg.lean LOADS. Nothing in Lean hashes anything: it is a label: what it is worth is what the hold of that sum in a sandbox is worth. -/
noncomputable def Try.pinned : Pinned := { name := "ytgfklfpjibjhmaa", sum := "7eb5fc705b127438b1c5cbbff7bd255e80427effaf7efc0408e78c3bd401c200", checked := Try.checked }
namespace Rows
def none {H : Type} : Left H := { results := [], args := [] }

/-- 'guillochelaw19.MeshDoes': WHATEVER THE INPUT: true; the input reads as it did. -/
def meshDoesSpec : ChangeSpec := { name := "meshDoes", fn := fun _ => fun
  | [d1, d2, d3] => { results := [.lit (.bool true)], args := [d1, d2, d3] }
  | _ => none }
def meshDoesRow : OpenClaim := { program := "ytgfklfpjibjhmaa", sum := "7eb5fc705b127438b1c5cbbff7bd255e80427effaf7efc0408e78c3bd401c200", func := "guilloche/guillochelaw19.MeshDoes", spec := "meshDoes", inPlace := ["slices.overlaps[string]"], unfollowed := true, recurses := true, apart := false }
def MeshDoesSaid : Prop := meshDoesRow.holds Try.pinned (OpenSpec.ofChange meshDoesSpec)

/-- ITS FALSE NEIGHBOUR: 'it returns false'. Refute it at one input. -/
def meshDoesWrong : ChangeSpec := { name := "meshDoes", fn := fun _ => fun
  | [d1, d2, d3] => { results := [.lit (.bool false)], args := [d1, d2, d3] }
  | _ => none }
def MeshDoesWrongFalsely : Prop := meshDoesRow.holds Try.pinned (OpenSpec.ofChange meshDoesWrong)

/-- 'guillochelaw19.MeshCounts': WHATEVER THE INPUT: true; the input reads as it did. -/
def meshCountsSpec : ChangeSpec := { name := "meshCounts", fn := fun _ => fun
  | [d1, d2, d3] => { results := [.lit (.bool true)], args := [d1, d2, d3] }
  | _ => none }
def meshCountsRow : OpenClaim := { program := "ytgfklfpjibjhmaa", sum := "7eb5fc705b127438b1c5cbbff7bd255e80427effaf7efc0408e78c3bd401c200", func := "guilloche/guillochelaw19.MeshCounts", spec := "meshCounts", inPlace := ["slices.overlaps[string]"], unfollowed := true, recurses := true, apart := false }
def MeshCountsSaid : Prop := meshCountsRow.holds Try.pinned (OpenSpec.ofChange meshCountsSpec)

/-- ITS FALSE NEIGHBOUR: 'it returns false'. Refute it at one input. -/
def meshCountsWrong : ChangeSpec := { name := "meshCounts", fn := fun _ => fun
  | [d1, d2, d3] => { results := [.lit (.bool false)], args := [d1, d2, d3] }
  | _ => none }
def MeshCountsWrongFalsely : Prop := meshCountsRow.holds Try.pinned (OpenSpec.ofChange meshCountsWrong)

/-- 'guillochelaw19.MeshMoves': WHATEVER THE INPUT: true; the input reads as it did. -/
def meshMovesSpec : ChangeSpec := { name := "meshMoves", fn := fun _ => fun
  | [d1, d2, d3] => { results := [.lit (.bool true)], args := [d1, d2, d3] }
  | _ => none }
def meshMovesRow : OpenClaim := { program := "ytgfklfpjibjhmaa", sum := "7eb5fc705b127438b1c5cbbff7bd255e80427effaf7efc0408e78c3bd401c200", func := "guilloche/guillochelaw19.MeshMoves", spec := "meshMoves", inPlace := ["slices.overlaps[string]"], unfollowed := true, recurses := true, apart := false }
def MeshMovesSaid : Prop := meshMovesRow.holds Try.pinned (OpenSpec.ofChange meshMovesSpec)

/-- ITS FALSE NEIGHBOUR: 'it returns false'. Refute it at one input. -/
def meshMovesWrong : ChangeSpec := { name := "meshMoves", fn := fun _ => fun
  | [d1, d2, d3] => { results := [.lit (.bool false)], args := [d1, d2, d3] }
  | _ => none }
def MeshMovesWrongFalsely : Prop := meshMovesRow.holds Try.pinned (OpenSpec.ofChange meshMovesWrong)

/-- 'guillochelaw19.MeshOrder': WHATEVER THE INPUT: true; the input reads as it did. -/
def meshOrderSpec : ChangeSpec := { name := "meshOrder", fn := fun _ => fun
  | [d1, d2] => { results := [.lit (.bool true)], args := [d1, d2] }
  | _ => none }
def meshOrderRow : OpenClaim := { program := "ytgfklfpjibjhmaa", sum := "7eb5fc705b127438b1c5cbbff7bd255e80427effaf7efc0408e78c3bd401c200", func := "guilloche/guillochelaw19.MeshOrder", spec := "meshOrder", inPlace := ["slices.overlaps[string]"], unfollowed := true, recurses := true, apart := false }
def MeshOrderSaid : Prop := meshOrderRow.holds Try.pinned (OpenSpec.ofChange meshOrderSpec)

/-- ITS FALSE NEIGHBOUR: 'it returns false'. Refute it at one input. -/
def meshOrderWrong : ChangeSpec := { name := "meshOrder", fn := fun _ => fun
  | [d1, d2] => { results := [.lit (.bool false)], args := [d1, d2] }
  | _ => none }
def MeshOrderWrongFalsely : Prop := meshOrderRow.holds Try.pinned (OpenSpec.ofChange meshOrderWrong)

/-- 'guillochelaw19.MeshDoubles': WHATEVER THE INPUT: true; the input reads as it did. -/
def meshDoublesSpec : ChangeSpec := { name := "meshDoubles", fn := fun _ => fun
  | [d1, d2, d3] => { results := [.lit (.bool true)], args := [d1, d2, d3] }
  | _ => none }
def meshDoublesRow : OpenClaim := { program := "ytgfklfpjibjhmaa", sum := "7eb5fc705b127438b1c5cbbff7bd255e80427effaf7efc0408e78c3bd401c200", func := "guilloche/guillochelaw19.MeshDoubles", spec := "meshDoubles", inPlace := ["slices.overlaps[string]"], unfollowed := true, recurses := true, apart := false }
def MeshDoublesSaid : Prop := meshDoublesRow.holds Try.pinned (OpenSpec.ofChange meshDoublesSpec)

/-- ITS FALSE NEIGHBOUR: 'it returns false'. Refute it at one input. -/
def meshDoublesWrong : ChangeSpec := { name := "meshDoubles", fn := fun _ => fun
  | [d1, d2, d3] => { results := [.lit (.bool false)], args := [d1, d2, d3] }
  | _ => none }
def MeshDoublesWrongFalsely : Prop := meshDoublesRow.holds Try.pinned (OpenSpec.ofChange meshDoublesWrong)

/- THE SECOND FORM. 'bulk': how many values and letters a reading holds, each counted each time it is reached (what is shared counts as often as it is met; a slice's spare places count too). A statement '..UptoSaid' is the law's where the arguments, and the package variables that the reading takes, are together of bulk at most 1048576: NARROWER than '..Said'. Prove '..Said' where nothing that the law and all that it calls make is longer than what came in: it says more and counts as full. Else prove '..UptoSaid'. A law counts once. -/
mutual
def uptoBulk {H : Type} : DataW H → Nat
  | .lit (.string bytes) => bytes.length + 1
  | .lit _ => 1
  | .nil => 1
  | .ptr d => uptoBulk d + 1
  | .slice elems spare => uptoBulkAll elems + uptoBulkAll spare + 1
  | .agg parts => uptoBulkAll parts + 1
  | .iface _ d => uptoBulk d + 1
  | .map entries => uptoBulkEntries entries + 1
  | .held _ => 1
def uptoBulkAll {H : Type} : List (DataW H) → Nat
  | [] => 0
  | d :: r => uptoBulk d + uptoBulkAll r
def uptoBulkEntries {H : Type} : List (Lit × DataW H) → Nat
  | [] => 0
  | x :: r => uptoBulkEntry x + uptoBulkEntries r
def uptoBulkEntry {H : Type} : Lit × DataW H → Nat
  | (.string bytes, d) => bytes.length + uptoBulk d + 1
  | (_, d) => uptoBulk d + 1
 end
def uptoSmall : (H : Type) → List (DataW H) → Bool := fun _ ds => decide (uptoBulkAll ds ≤ 1048576)
def OpenSpec.upto (s : _root_.Go.ChangeSpec) : _root_.Go.OpenSpec := { _root_.Go.OpenSpec.ofChange s with cond := some uptoSmall }

/-- 'guillochelaw19.MeshDoes', WHERE WHAT IT READS IS OF BULK AT MOST 1048576: true; the input reads as it did. -/
def meshDoesUptoRow : OpenClaim := { program := "ytgfklfpjibjhmaa", sum := "7eb5fc705b127438b1c5cbbff7bd255e80427effaf7efc0408e78c3bd401c200", func := "guilloche/guillochelaw19.MeshDoes", spec := "meshDoes", inPlace := ["slices.overlaps[string]"], unfollowed := true, recurses := true, apart := false, narrowed := true }
def MeshDoesUptoSaid : Prop := meshDoesUptoRow.holds Try.pinned (OpenSpec.upto meshDoesSpec)

/-- 'guillochelaw19.MeshCounts', WHERE WHAT IT READS IS OF BULK AT MOST 1048576: true; the input reads as it did. -/
def meshCountsUptoRow : OpenClaim := { program := "ytgfklfpjibjhmaa", sum := "7eb5fc705b127438b1c5cbbff7bd255e80427effaf7efc0408e78c3bd401c200", func := "guilloche/guillochelaw19.MeshCounts", spec := "meshCounts", inPlace := ["slices.overlaps[string]"], unfollowed := true, recurses := true, apart := false, narrowed := true }
def MeshCountsUptoSaid : Prop := meshCountsUptoRow.holds Try.pinned (OpenSpec.upto meshCountsSpec)

/-- 'guillochelaw19.MeshMoves', WHERE WHAT IT READS IS OF BULK AT MOST 1048576: true; the input reads as it did. -/
def meshMovesUptoRow : OpenClaim := { program := "ytgfklfpjibjhmaa", sum := "7eb5fc705b127438b1c5cbbff7bd255e80427effaf7efc0408e78c3bd401c200", func := "guilloche/guillochelaw19.MeshMoves", spec := "meshMoves", inPlace := ["slices.overlaps[string]"], unfollowed := true, recurses := true, apart := false, narrowed := true }
def MeshMovesUptoSaid : Prop := meshMovesUptoRow.holds Try.pinned (OpenSpec.upto meshMovesSpec)

/-- 'guillochelaw19.MeshOrder', WHERE WHAT IT READS IS OF BULK AT MOST 1048576: true; the input reads as it did. -/
def meshOrderUptoRow : OpenClaim := { program := "ytgfklfpjibjhmaa", sum := "7eb5fc705b127438b1c5cbbff7bd255e80427effaf7efc0408e78c3bd401c200", func := "guilloche/guillochelaw19.MeshOrder", spec := "meshOrder", inPlace := ["slices.overlaps[string]"], unfollowed := true, recurses := true, apart := false, narrowed := true }
def MeshOrderUptoSaid : Prop := meshOrderUptoRow.holds Try.pinned (OpenSpec.upto meshOrderSpec)

/-- 'guillochelaw19.MeshDoubles', WHERE WHAT IT READS IS OF BULK AT MOST 1048576: true; the input reads as it did. -/
def meshDoublesUptoRow : OpenClaim := { program := "ytgfklfpjibjhmaa", sum := "7eb5fc705b127438b1c5cbbff7bd255e80427effaf7efc0408e78c3bd401c200", func := "guilloche/guillochelaw19.MeshDoubles", spec := "meshDoubles", inPlace := ["slices.overlaps[string]"], unfollowed := true, recurses := true, apart := false, narrowed := true }
def MeshDoublesUptoSaid : Prop := meshDoublesUptoRow.holds Try.pinned (OpenSpec.upto meshDoublesSpec)

end Rows
end Go.Proofs.Ytgfklfpjibjhmaa
