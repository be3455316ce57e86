/-
  No cell of these rows narrows 'for every input' (looked for: loops, veiled, ifaces, maps, wideKeys, modest, calm, conditions, laid).
  DERIVED. THE GIVEN ROWS OF THIS SEAT. 3 by the template 'for every input the law returns true; each argument reads behind the call as it read before'; 0 by the template 'total and deterministic' (their statements: YtkeelkeoijemiaaTotals.lean).
  GIVEN WITH THE SEED: the statements are not yours to turn. If you find one false, say at which input.
  Laid BY PROGRAM, IN A SANDBOX (cutbox-rows.mjs): the forced cells as the released guide's own fill.sh prints them over the translation 725b76e4ac17bc3d… (all of the seat's roots in one cut). By AI agents, Wed Nov 11 2026. No macro, syntax, notation, axiom, sorry.
-/
import Derived.Test.YtkeelkeoijemiaaChecked
import GoSem.Claim
import GoSem.ClaimJoined
import GoSem.ClaimMapViews
import Derived.JoinedTies
import Derived.KernelRfl
namespace Go.Proofs.Ytkeelkeoijemiaa
/- THE CELL 'sum', in the pinned program and in every row, IS THE sha256 OF THE DUMP (.gsa) THAT YtkeelkeoijemiaaProg.lean LOADS. Nothing in Lean hashes anything: it is a label: what it is worth is what the hold of that sum in a sandbox is worth. -/
noncomputable def Try.pinned : Pinned := { name := "ytkeelkeoijemiaa", sum := "725b76e4ac17bc3de9b461989af5493f789a1bf347f1186b4db0cb1633e1dbf8", checked := Try.checked }
namespace Rows
def none {H : Type} : Left H := { results := [], args := [] }

/-- 'swarflaw34.TrochoidCenters': WHATEVER THE INPUT: true; the input reads as it did. -/
def trochoidCentersSpec : ChangeSpec := { name := "trochoidCenters", fn := fun _ => fun
  | [d] => { results := [.lit (.bool true)], args := [d] }
  | _ => none }
def trochoidCentersRow : OpenClaim := { program := "ytkeelkeoijemiaa", sum := "725b76e4ac17bc3de9b461989af5493f789a1bf347f1186b4db0cb1633e1dbf8", func := "swarf/swarflaw34.TrochoidCenters", spec := "trochoidCenters", unfollowed := true, recurses := true, apart := false }
def TrochoidCentersSaid : Prop := trochoidCentersRow.holds Try.pinned (OpenSpec.ofChange trochoidCentersSpec)

/-- ITS FALSE NEIGHBOUR: 'it returns false'. Refute it at one input. -/
def trochoidCentersWrong : ChangeSpec := { name := "trochoidCenters", fn := fun _ => fun
  | [d] => { results := [.lit (.bool false)], args := [d] }
  | _ => none }
def TrochoidCentersWrongFalsely : Prop := trochoidCentersRow.holds Try.pinned (OpenSpec.ofChange trochoidCentersWrong)

/-- 'swarflaw34.TrochoidPath': WHATEVER THE INPUT: true; the input reads as it did. -/
def trochoidPathSpec : ChangeSpec := { name := "trochoidPath", fn := fun _ => fun
  | [d] => { results := [.lit (.bool true)], args := [d] }
  | _ => none }
def trochoidPathRow : OpenClaim := { program := "ytkeelkeoijemiaa", sum := "725b76e4ac17bc3de9b461989af5493f789a1bf347f1186b4db0cb1633e1dbf8", func := "swarf/swarflaw34.TrochoidPath", spec := "trochoidPath", unfollowed := true, recurses := true, apart := false }
def TrochoidPathSaid : Prop := trochoidPathRow.holds Try.pinned (OpenSpec.ofChange trochoidPathSpec)

/-- ITS FALSE NEIGHBOUR: 'it returns false'. Refute it at one input. -/
def trochoidPathWrong : ChangeSpec := { name := "trochoidPath", fn := fun _ => fun
  | [d] => { results := [.lit (.bool false)], args := [d] }
  | _ => none }
def TrochoidPathWrongFalsely : Prop := trochoidPathRow.holds Try.pinned (OpenSpec.ofChange trochoidPathWrong)

/-- 'swarflaw34.TrochoidMoves': WHATEVER THE INPUT: true; the input reads as it did. -/
def trochoidMovesSpec : ChangeSpec := { name := "trochoidMoves", fn := fun _ => fun
  | [d] => { results := [.lit (.bool true)], args := [d] }
  | _ => none }
def trochoidMovesRow : OpenClaim := { program := "ytkeelkeoijemiaa", sum := "725b76e4ac17bc3de9b461989af5493f789a1bf347f1186b4db0cb1633e1dbf8", func := "swarf/swarflaw34.TrochoidMoves", spec := "trochoidMoves", unfollowed := true, recurses := true, apart := false }
def TrochoidMovesSaid : Prop := trochoidMovesRow.holds Try.pinned (OpenSpec.ofChange trochoidMovesSpec)

/-- ITS FALSE NEIGHBOUR: 'it returns false'. Refute it at one input. -/
def trochoidMovesWrong : ChangeSpec := { name := "trochoidMoves", fn := fun _ => fun
  | [d] => { results := [.lit (.bool false)], args := [d] }
  | _ => none }
def TrochoidMovesWrongFalsely : Prop := trochoidMovesRow.holds Try.pinned (OpenSpec.ofChange trochoidMovesWrong)

/- THE SECOND FORM. 'bulk': how many values and letters a reading holds, each counted each time it is reached (what is shared counts as often as it is met; a slice's spare places count too). A statement '..UptoSaid' is the law's where the arguments, and the package variables that the reading takes, are together of bulk at most 1048576: NARROWER than '..Said'. Prove '..Said' where nothing that the law and all that it calls make is longer than what came in: it says more and counts as full. Else prove '..UptoSaid'. A law counts once. -/
mutual
def uptoBulk {H : Type} : DataW H → Nat
  | .lit (.string bytes) => bytes.length + 1
  | .lit _ => 1
  | .nil => 1
  | .ptr d => uptoBulk d + 1
  | .slice elems spare => uptoBulkAll elems + uptoBulkAll spare + 1
  | .agg parts => uptoBulkAll parts + 1
  | .iface _ d => uptoBulk d + 1
  | .map entries => uptoBulkEntries entries + 1
  | .held _ => 1
def uptoBulkAll {H : Type} : List (DataW H) → Nat
  | [] => 0
  | d :: r => uptoBulk d + uptoBulkAll r
def uptoBulkEntries {H : Type} : List (Lit × DataW H) → Nat
  | [] => 0
  | x :: r => uptoBulkEntry x + uptoBulkEntries r
def uptoBulkEntry {H : Type} : Lit × DataW H → Nat
  | (.string bytes, d) => bytes.length + uptoBulk d + 1
  | (_, d) => uptoBulk d + 1
 end
def uptoSmall : (H : Type) → List (DataW H) → Bool := fun _ ds => decide (uptoBulkAll ds ≤ 1048576)
def OpenSpec.upto (s : _root_.Go.ChangeSpec) : _root_.Go.OpenSpec := { _root_.Go.OpenSpec.ofChange s with cond := some uptoSmall }

/-- 'swarflaw34.TrochoidCenters', WHERE WHAT IT READS IS OF BULK AT MOST 1048576: true; the input reads as it did. -/
def trochoidCentersUptoRow : OpenClaim := { program := "ytkeelkeoijemiaa", sum := "725b76e4ac17bc3de9b461989af5493f789a1bf347f1186b4db0cb1633e1dbf8", func := "swarf/swarflaw34.TrochoidCenters", spec := "trochoidCenters", unfollowed := true, recurses := true, apart := false, narrowed := true }
def TrochoidCentersUptoSaid : Prop := trochoidCentersUptoRow.holds Try.pinned (OpenSpec.upto trochoidCentersSpec)

/-- 'swarflaw34.TrochoidPath', WHERE WHAT IT READS IS OF BULK AT MOST 1048576: true; the input reads as it did. -/
def trochoidPathUptoRow : OpenClaim := { program := "ytkeelkeoijemiaa", sum := "725b76e4ac17bc3de9b461989af5493f789a1bf347f1186b4db0cb1633e1dbf8", func := "swarf/swarflaw34.TrochoidPath", spec := "trochoidPath", unfollowed := true, recurses := true, apart := false, narrowed := true }
def TrochoidPathUptoSaid : Prop := trochoidPathUptoRow.holds Try.pinned (OpenSpec.upto trochoidPathSpec)

/-- 'swarflaw34.TrochoidMoves', WHERE WHAT IT READS IS OF BULK AT MOST 1048576: true; the input reads as it did. -/
def trochoidMovesUptoRow : OpenClaim := { program := "ytkeelkeoijemiaa", sum := "725b76e4ac17bc3de9b461989af5493f789a1bf347f1186b4db0cb1633e1dbf8", func := "swarf/swarflaw34.TrochoidMoves", spec := "trochoidMoves", unfollowed := true, recurses := true, apart := false, narrowed := true }
def TrochoidMovesUptoSaid : Prop := trochoidMovesUptoRow.holds Try.pinned (OpenSpec.upto trochoidMovesSpec)

end Rows
end Go.Proofs.Ytkeelkeoijemiaa
