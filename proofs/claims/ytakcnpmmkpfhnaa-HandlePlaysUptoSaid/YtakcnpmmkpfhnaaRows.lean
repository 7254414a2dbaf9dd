/-
  No cell of these rows narrows 'for every input' (looked for: loops, veiled, ifaces, maps, wideKeys, modest, calm, conditions, laid).
  DERIVED. THE GIVEN ROWS OF THIS SEAT. 5 by the template 'for every input the law returns true; each argument reads behind the call as it read before'; 0 by the template 'total and deterministic' (their statements: YtakcnpmmkpfhnaaTotals.lean).
  GIVEN WITH THE SEED: the statements are not yours to turn. If you find one false, say at which input.
  Laid BY PROGRAM, IN A SANDBOX (cutbox-rows.mjs): the forced cells as the released guide's own fill.sh prints them over the translation 48ab5a0c21fbe0e4… (all of the seat's roots in one cut). By AI agents, Wed Nov 11 2026. No macro, syntax, notation, axiom, sorry.
-/
import Derived.Test.YtakcnpmmkpfhnaaChecked
import GoSem.Claim
import GoSem.ClaimJoined
import GoSem.ClaimMapViews
import Derived.JoinedTies
import Derived.KernelRfl
namespace Go.Proofs.Ytakcnpmmkpfhnaa
/- THE CELL 'sum', in the pinned program and in every row, IS THE sha256 OF THE DUMP (.gsa) THAT YtakcnpmmkpfhnaaProg.lean LOADS. Nothing in Lean hashes anything: it is a label: what it is worth is what the hold of that sum in a sandbox is worth. -/
noncomputable def Try.pinned : Pinned := { name := "ytakcnpmmkpfhnaa", sum := "48ab5a0c21fbe0e4c79086cefd999d1009c13b578419d78c9507d11dc1c8ed3f", checked := Try.checked }
namespace Rows
def none {H : Type} : Left H := { results := [], args := [] }

/-- 'tidemarklaw8.HandleKnown': WHATEVER THE INPUT: true; the input reads as it did. -/
def handleKnownSpec : ChangeSpec := { name := "handleKnown", fn := fun _ => fun
  | [] => { results := [.lit (.bool true)], args := [] }
  | _ => none }
def handleKnownRow : OpenClaim := { program := "ytakcnpmmkpfhnaa", sum := "48ab5a0c21fbe0e4c79086cefd999d1009c13b578419d78c9507d11dc1c8ed3f", func := "tidemark/tidemarklaw8.HandleKnown", spec := "handleKnown", apart := false }
def HandleKnownSaid : Prop := handleKnownRow.holds Try.pinned (OpenSpec.ofChange handleKnownSpec)

/-- ITS FALSE NEIGHBOUR: 'it returns false'. Refute it at one input. -/
def handleKnownWrong : ChangeSpec := { name := "handleKnown", fn := fun _ => fun
  | [] => { results := [.lit (.bool false)], args := [] }
  | _ => none }
def HandleKnownWrongFalsely : Prop := handleKnownRow.holds Try.pinned (OpenSpec.ofChange handleKnownWrong)

/-- 'tidemarklaw8.HandleFull': WHATEVER THE INPUT: true; the input reads as it did. -/
def handleFullSpec : ChangeSpec := { name := "handleFull", fn := fun _ => fun
  | [d1, d2] => { results := [.lit (.bool true)], args := [d1, d2] }
  | _ => none }
def handleFullRow : OpenClaim := { program := "ytakcnpmmkpfhnaa", sum := "48ab5a0c21fbe0e4c79086cefd999d1009c13b578419d78c9507d11dc1c8ed3f", func := "tidemark/tidemarklaw8.HandleFull", spec := "handleFull", apart := false }
def HandleFullSaid : Prop := handleFullRow.holds Try.pinned (OpenSpec.ofChange handleFullSpec)

/-- ITS FALSE NEIGHBOUR: 'it returns false'. Refute it at one input. -/
def handleFullWrong : ChangeSpec := { name := "handleFull", fn := fun _ => fun
  | [d1, d2] => { results := [.lit (.bool false)], args := [d1, d2] }
  | _ => none }
def HandleFullWrongFalsely : Prop := handleFullRow.holds Try.pinned (OpenSpec.ofChange handleFullWrong)

/-- 'tidemarklaw8.HandleStale': WHATEVER THE INPUT: true; the input reads as it did. -/
def handleStaleSpec : ChangeSpec := { name := "handleStale", fn := fun _ => fun
  | [d1, d2] => { results := [.lit (.bool true)], args := [d1, d2] }
  | _ => none }
def handleStaleRow : OpenClaim := { program := "ytakcnpmmkpfhnaa", sum := "48ab5a0c21fbe0e4c79086cefd999d1009c13b578419d78c9507d11dc1c8ed3f", func := "tidemark/tidemarklaw8.HandleStale", spec := "handleStale", apart := false }
def HandleStaleSaid : Prop := handleStaleRow.holds Try.pinned (OpenSpec.ofChange handleStaleSpec)

/-- ITS FALSE NEIGHBOUR: 'it returns false'. Refute it at one input. -/
def handleStaleWrong : ChangeSpec := { name := "handleStale", fn := fun _ => fun
  | [d1, d2] => { results := [.lit (.bool false)], args := [d1, d2] }
  | _ => none }
def HandleStaleWrongFalsely : Prop := handleStaleRow.holds Try.pinned (OpenSpec.ofChange handleStaleWrong)

/-- 'tidemarklaw8.HandleMoves': WHATEVER THE INPUT: true; the input reads as it did. -/
def handleMovesSpec : ChangeSpec := { name := "handleMoves", fn := fun _ => fun
  | [d1, d2] => { results := [.lit (.bool true)], args := [d1, d2] }
  | _ => none }
def handleMovesRow : OpenClaim := { program := "ytakcnpmmkpfhnaa", sum := "48ab5a0c21fbe0e4c79086cefd999d1009c13b578419d78c9507d11dc1c8ed3f", func := "tidemark/tidemarklaw8.HandleMoves", spec := "handleMoves", apart := false }
def HandleMovesSaid : Prop := handleMovesRow.holds Try.pinned (OpenSpec.ofChange handleMovesSpec)

/-- ITS FALSE NEIGHBOUR: 'it returns false'. Refute it at one input. -/
def handleMovesWrong : ChangeSpec := { name := "handleMoves", fn := fun _ => fun
  | [d1, d2] => { results := [.lit (.bool false)], args := [d1, d2] }
  | _ => none }
def HandleMovesWrongFalsely : Prop := handleMovesRow.holds Try.pinned (OpenSpec.ofChange handleMovesWrong)

/-- 'tidemarklaw8.HandlePlays': WHATEVER THE INPUT: true; the input reads as it did. -/
def handlePlaysSpec : ChangeSpec := { name := "handlePlays", fn := fun _ => fun
  | [d1, d2] => { results := [.lit (.bool true)], args := [d1, d2] }
  | _ => none }
def handlePlaysRow : OpenClaim := { program := "ytakcnpmmkpfhnaa", sum := "48ab5a0c21fbe0e4c79086cefd999d1009c13b578419d78c9507d11dc1c8ed3f", func := "tidemark/tidemarklaw8.HandlePlays", spec := "handlePlays", apart := false }
def HandlePlaysSaid : Prop := handlePlaysRow.holds Try.pinned (OpenSpec.ofChange handlePlaysSpec)

/-- ITS FALSE NEIGHBOUR: 'it returns false'. Refute it at one input. -/
def handlePlaysWrong : ChangeSpec := { name := "handlePlays", fn := fun _ => fun
  | [d1, d2] => { results := [.lit (.bool false)], args := [d1, d2] }
  | _ => none }
def HandlePlaysWrongFalsely : Prop := handlePlaysRow.holds Try.pinned (OpenSpec.ofChange handlePlaysWrong)

/- THE SECOND FORM. 'bulk': how many values and letters a reading holds, each counted each time it is reached (what is shared counts as often as it is met; a slice's spare places count too). A statement '..UptoSaid' is the law's where the arguments, and the package variables that the reading takes, are together of bulk at most 1048576: NARROWER than '..Said'. Prove '..Said' where nothing that the law and all that it calls make is longer than what came in: it says more and counts as full. Else prove '..UptoSaid'. A law counts once. -/
mutual
def uptoBulk {H : Type} : DataW H → Nat
  | .lit (.string bytes) => bytes.length + 1
  | .lit _ => 1
  | .nil => 1
  | .ptr d => uptoBulk d + 1
  | .slice elems spare => uptoBulkAll elems + uptoBulkAll spare + 1
  | .agg parts => uptoBulkAll parts + 1
  | .iface _ d => uptoBulk d + 1
  | .map entries => uptoBulkEntries entries + 1
  | .held _ => 1
def uptoBulkAll {H : Type} : List (DataW H) → Nat
  | [] => 0
  | d :: r => uptoBulk d + uptoBulkAll r
def uptoBulkEntries {H : Type} : List (Lit × DataW H) → Nat
  | [] => 0
  | x :: r => uptoBulkEntry x + uptoBulkEntries r
def uptoBulkEntry {H : Type} : Lit × DataW H → Nat
  | (.string bytes, d) => bytes.length + uptoBulk d + 1
  | (_, d) => uptoBulk d + 1
 end
def uptoSmall : (H : Type) → List (DataW H) → Bool := fun _ ds => decide (uptoBulkAll ds ≤ 1048576)
def OpenSpec.upto (s : _root_.Go.ChangeSpec) : _root_.Go.OpenSpec := { _root_.Go.OpenSpec.ofChange s with cond := some uptoSmall }

/-- 'tidemarklaw8.HandleKnown', WHERE WHAT IT READS IS OF BULK AT MOST 1048576: true; the input reads as it did. -/
def handleKnownUptoRow : OpenClaim := { program := "ytakcnpmmkpfhnaa", sum := "48ab5a0c21fbe0e4c79086cefd999d1009c13b578419d78c9507d11dc1c8ed3f", func := "tidemark/tidemarklaw8.HandleKnown", spec := "handleKnown", apart := false, narrowed := true }
def HandleKnownUptoSaid : Prop := handleKnownUptoRow.holds Try.pinned (OpenSpec.upto handleKnownSpec)

/-- 'tidemarklaw8.HandleFull', WHERE WHAT IT READS IS OF BULK AT MOST 1048576: true; the input reads as it did. -/
def handleFullUptoRow : OpenClaim := { program := "ytakcnpmmkpfhnaa", sum := "48ab5a0c21fbe0e4c79086cefd999d1009c13b578419d78c9507d11dc1c8ed3f", func := "tidemark/tidemarklaw8.HandleFull", spec := "handleFull", apart := false, narrowed := true }
def HandleFullUptoSaid : Prop := handleFullUptoRow.holds Try.pinned (OpenSpec.upto handleFullSpec)

/-- 'tidemarklaw8.HandleStale', WHERE WHAT IT READS IS OF BULK AT MOST 1048576: true; the input reads as it did. -/
def handleStaleUptoRow : OpenClaim := { program := "ytakcnpmmkpfhnaa", sum := "48ab5a0c21fbe0e4c79086cefd999d1009c13b578419d78c9507d11dc1c8ed3f", func := "tidemark/tidemarklaw8.HandleStale", spec := "handleStale", apart := false, narrowed := true }
def HandleStaleUptoSaid : Prop := handleStaleUptoRow.holds Try.pinned (OpenSpec.upto handleStaleSpec)

/-- 'tidemarklaw8.HandleMoves', WHERE WHAT IT READS IS OF BULK AT MOST 1048576: true; the input reads as it did. -/
def handleMovesUptoRow : OpenClaim := { program := "ytakcnpmmkpfhnaa", sum := "48ab5a0c21fbe0e4c79086cefd999d1009c13b578419d78c9507d11dc1c8ed3f", func := "tidemark/tidemarklaw8.HandleMoves", spec := "handleMoves", apart := false, narrowed := true }
def HandleMovesUptoSaid : Prop := handleMovesUptoRow.holds Try.pinned (OpenSpec.upto handleMovesSpec)

/-- 'tidemarklaw8.HandlePlays', WHERE WHAT IT READS IS OF BULK AT MOST 1048576: true; the input reads as it did. -/
def handlePlaysUptoRow : OpenClaim := { program := "ytakcnpmmkpfhnaa", sum := "48ab5a0c21fbe0e4c79086cefd999d1009c13b578419d78c9507d11dc1c8ed3f", func := "tidemark/tidemarklaw8.HandlePlays", spec := "handlePlays", apart := false, narrowed := true }
def HandlePlaysUptoSaid : Prop := handlePlaysUptoRow.holds Try.pinned (OpenSpec.upto handlePlaysSpec)

end Rows
end Go.Proofs.Ytakcnpmmkpfhnaa
