/-
  No cell of these rows narrows 'for every input' (looked for: loops, veiled, ifaces, maps, wideKeys, modest, calm, conditions, laid).
  DERIVED. THE GIVEN ROWS OF THIS SEAT. 6 by the template 'for every input the law returns true; each argument reads behind the call as it read before'; 0 by the template 'total and deterministic' (their statements: YtagnepjmgkoboaaTotals.lean).
  GIVEN WITH THE SEED: the statements are not yours to turn. If you find one false, say at which input.
  Laid BY PROGRAM, IN A SANDBOX (cutbox-rows.mjs): the forced cells as the released guide's own fill.sh prints them over the translation 3337223e5c0dada5… (all of the seat's roots in one cut). By AI agents, Wed Nov 11 2026. No macro, syntax, notation, axiom, sorry.
-/
import Derived.Test.YtagnepjmgkoboaaChecked
import GoSem.Claim
import GoSem.ClaimJoined
import GoSem.ClaimMapViews
import Derived.JoinedTies
import Derived.KernelRfl
namespace Go.Proofs.Ytagnepjmgkoboaa
/- THE CELL 'sum', in the pinned program and in every row, IS THE sha256 OF THE DUMP (.gsa) THAT YtagnepjmgkoboaaProg.lean LOADS. Nothing in Lean hashes anything: it is a label: what it is worth is what the hold of that sum in a sandbox is worth. -/
noncomputable def Try.pinned : Pinned := { name := "ytagnepjmgkoboaa", sum := "3337223e5c0dada556ed83eb7ab72afa834b700e3195675a39c6217c6f5105d4", checked := Try.checked }
namespace Rows
def none {H : Type} : Left H := { results := [], args := [] }

/-- 'tidemarklaw9.HeapApart': WHATEVER THE INPUT: true; the input reads as it did. -/
def heapApartSpec : ChangeSpec := { name := "heapApart", fn := fun _ => fun
  | [d1, d2, d3] => { results := [.lit (.bool true)], args := [d1, d2, d3] }
  | _ => none }
def heapApartRow : OpenClaim := { program := "ytagnepjmgkoboaa", sum := "3337223e5c0dada556ed83eb7ab72afa834b700e3195675a39c6217c6f5105d4", func := "tidemark/tidemarklaw9.HeapApart", spec := "heapApart", unfollowed := true, recurses := true, apart := false }
def HeapApartSaid : Prop := heapApartRow.holds Try.pinned (OpenSpec.ofChange heapApartSpec)

/-- ITS FALSE NEIGHBOUR: 'it returns false'. Refute it at one input. -/
def heapApartWrong : ChangeSpec := { name := "heapApart", fn := fun _ => fun
  | [d1, d2, d3] => { results := [.lit (.bool false)], args := [d1, d2, d3] }
  | _ => none }
def HeapApartWrongFalsely : Prop := heapApartRow.holds Try.pinned (OpenSpec.ofChange heapApartWrong)

/-- 'tidemarklaw9.HeapWatched': WHATEVER THE INPUT: true; the input reads as it did. -/
def heapWatchedSpec : ChangeSpec := { name := "heapWatched", fn := fun _ => fun
  | [d1, d2, d3] => { results := [.lit (.bool true)], args := [d1, d2, d3] }
  | _ => none }
def heapWatchedRow : OpenClaim := { program := "ytagnepjmgkoboaa", sum := "3337223e5c0dada556ed83eb7ab72afa834b700e3195675a39c6217c6f5105d4", func := "tidemark/tidemarklaw9.HeapWatched", spec := "heapWatched", unfollowed := true, recurses := true, apart := false }
def HeapWatchedSaid : Prop := heapWatchedRow.holds Try.pinned (OpenSpec.ofChange heapWatchedSpec)

/-- ITS FALSE NEIGHBOUR: 'it returns false'. Refute it at one input. -/
def heapWatchedWrong : ChangeSpec := { name := "heapWatched", fn := fun _ => fun
  | [d1, d2, d3] => { results := [.lit (.bool false)], args := [d1, d2, d3] }
  | _ => none }
def HeapWatchedWrongFalsely : Prop := heapWatchedRow.holds Try.pinned (OpenSpec.ofChange heapWatchedWrong)

/-- 'tidemarklaw9.HeapFull': WHATEVER THE INPUT: true; the input reads as it did. -/
def heapFullSpec : ChangeSpec := { name := "heapFull", fn := fun _ => fun
  | [d1, d2, d3] => { results := [.lit (.bool true)], args := [d1, d2, d3] }
  | _ => none }
def heapFullRow : OpenClaim := { program := "ytagnepjmgkoboaa", sum := "3337223e5c0dada556ed83eb7ab72afa834b700e3195675a39c6217c6f5105d4", func := "tidemark/tidemarklaw9.HeapFull", spec := "heapFull", unfollowed := true, recurses := true, apart := false }
def HeapFullSaid : Prop := heapFullRow.holds Try.pinned (OpenSpec.ofChange heapFullSpec)

/-- ITS FALSE NEIGHBOUR: 'it returns false'. Refute it at one input. -/
def heapFullWrong : ChangeSpec := { name := "heapFull", fn := fun _ => fun
  | [d1, d2, d3] => { results := [.lit (.bool false)], args := [d1, d2, d3] }
  | _ => none }
def HeapFullWrongFalsely : Prop := heapFullRow.holds Try.pinned (OpenSpec.ofChange heapFullWrong)

/-- 'tidemarklaw9.HeapGraphs': WHATEVER THE INPUT: true; the input reads as it did. -/
def heapGraphsSpec : ChangeSpec := { name := "heapGraphs", fn := fun _ => fun
  | [d1, d2, d3] => { results := [.lit (.bool true)], args := [d1, d2, d3] }
  | _ => none }
def heapGraphsRow : OpenClaim := { program := "ytagnepjmgkoboaa", sum := "3337223e5c0dada556ed83eb7ab72afa834b700e3195675a39c6217c6f5105d4", func := "tidemark/tidemarklaw9.HeapGraphs", spec := "heapGraphs", unfollowed := true, recurses := true, apart := false }
def HeapGraphsSaid : Prop := heapGraphsRow.holds Try.pinned (OpenSpec.ofChange heapGraphsSpec)

/-- ITS FALSE NEIGHBOUR: 'it returns false'. Refute it at one input. -/
def heapGraphsWrong : ChangeSpec := { name := "heapGraphs", fn := fun _ => fun
  | [d1, d2, d3] => { results := [.lit (.bool false)], args := [d1, d2, d3] }
  | _ => none }
def HeapGraphsWrongFalsely : Prop := heapGraphsRow.holds Try.pinned (OpenSpec.ofChange heapGraphsWrong)

/-- 'tidemarklaw9.HeapKnown': WHATEVER THE INPUT: true; the input reads as it did. -/
def heapKnownSpec : ChangeSpec := { name := "heapKnown", fn := fun _ => fun
  | [] => { results := [.lit (.bool true)], args := [] }
  | _ => none }
def heapKnownRow : OpenClaim := { program := "ytagnepjmgkoboaa", sum := "3337223e5c0dada556ed83eb7ab72afa834b700e3195675a39c6217c6f5105d4", func := "tidemark/tidemarklaw9.HeapKnown", spec := "heapKnown", unfollowed := true, recurses := true, apart := false }
def HeapKnownSaid : Prop := heapKnownRow.holds Try.pinned (OpenSpec.ofChange heapKnownSpec)

/-- ITS FALSE NEIGHBOUR: 'it returns false'. Refute it at one input. -/
def heapKnownWrong : ChangeSpec := { name := "heapKnown", fn := fun _ => fun
  | [] => { results := [.lit (.bool false)], args := [] }
  | _ => none }
def HeapKnownWrongFalsely : Prop := heapKnownRow.holds Try.pinned (OpenSpec.ofChange heapKnownWrong)

/-- 'tidemarklaw9.HeapPlays': WHATEVER THE INPUT: true; the input reads as it did. -/
def heapPlaysSpec : ChangeSpec := { name := "heapPlays", fn := fun _ => fun
  | [d1, d2, d3] => { results := [.lit (.bool true)], args := [d1, d2, d3] }
  | _ => none }
def heapPlaysRow : OpenClaim := { program := "ytagnepjmgkoboaa", sum := "3337223e5c0dada556ed83eb7ab72afa834b700e3195675a39c6217c6f5105d4", func := "tidemark/tidemarklaw9.HeapPlays", spec := "heapPlays", unfollowed := true, recurses := true, apart := false }
def HeapPlaysSaid : Prop := heapPlaysRow.holds Try.pinned (OpenSpec.ofChange heapPlaysSpec)

/-- ITS FALSE NEIGHBOUR: 'it returns false'. Refute it at one input. -/
def heapPlaysWrong : ChangeSpec := { name := "heapPlays", fn := fun _ => fun
  | [d1, d2, d3] => { results := [.lit (.bool false)], args := [d1, d2, d3] }
  | _ => none }
def HeapPlaysWrongFalsely : Prop := heapPlaysRow.holds Try.pinned (OpenSpec.ofChange heapPlaysWrong)

/- THE SECOND FORM. 'bulk': how many values and letters a reading holds, each counted each time it is reached (what is shared counts as often as it is met; a slice's spare places count too). A statement '..UptoSaid' is the law's where the arguments, and the package variables that the reading takes, are together of bulk at most 1048576: NARROWER than '..Said'. Prove '..Said' where nothing that the law and all that it calls make is longer than what came in: it says more and counts as full. Else prove '..UptoSaid'. A law counts once. -/
mutual
def uptoBulk {H : Type} : DataW H → Nat
  | .lit (.string bytes) => bytes.length + 1
  | .lit _ => 1
  | .nil => 1
  | .ptr d => uptoBulk d + 1
  | .slice elems spare => uptoBulkAll elems + uptoBulkAll spare + 1
  | .agg parts => uptoBulkAll parts + 1
  | .iface _ d => uptoBulk d + 1
  | .map entries => uptoBulkEntries entries + 1
  | .held _ => 1
def uptoBulkAll {H : Type} : List (DataW H) → Nat
  | [] => 0
  | d :: r => uptoBulk d + uptoBulkAll r
def uptoBulkEntries {H : Type} : List (Lit × DataW H) → Nat
  | [] => 0
  | x :: r => uptoBulkEntry x + uptoBulkEntries r
def uptoBulkEntry {H : Type} : Lit × DataW H → Nat
  | (.string bytes, d) => bytes.length + uptoBulk d + 1
  | (_, d) => uptoBulk d + 1
 end
def uptoSmall : (H : Type) → List (DataW H) → Bool := fun _ ds => decide (uptoBulkAll ds ≤ 1048576)
def OpenSpec.upto (s : _root_.Go.ChangeSpec) : _root_.Go.OpenSpec := { _root_.Go.OpenSpec.ofChange s with cond := some uptoSmall }

/-- 'tidemarklaw9.HeapApart', WHERE WHAT IT READS IS OF BULK AT MOST 1048576: true; the input reads as it did. -/
def heapApartUptoRow : OpenClaim := { program := "ytagnepjmgkoboaa", sum := "3337223e5c0dada556ed83eb7ab72afa834b700e3195675a39c6217c6f5105d4", func := "tidemark/tidemarklaw9.HeapApart", spec := "heapApart", unfollowed := true, recurses := true, apart := false, narrowed := true }
def HeapApartUptoSaid : Prop := heapApartUptoRow.holds Try.pinned (OpenSpec.upto heapApartSpec)

/-- 'tidemarklaw9.HeapWatched', WHERE WHAT IT READS IS OF BULK AT MOST 1048576: true; the input reads as it did. -/
def heapWatchedUptoRow : OpenClaim := { program := "ytagnepjmgkoboaa", sum := "3337223e5c0dada556ed83eb7ab72afa834b700e3195675a39c6217c6f5105d4", func := "tidemark/tidemarklaw9.HeapWatched", spec := "heapWatched", unfollowed := true, recurses := true, apart := false, narrowed := true }
def HeapWatchedUptoSaid : Prop := heapWatchedUptoRow.holds Try.pinned (OpenSpec.upto heapWatchedSpec)

/-- 'tidemarklaw9.HeapFull', WHERE WHAT IT READS IS OF BULK AT MOST 1048576: true; the input reads as it did. -/
def heapFullUptoRow : OpenClaim := { program := "ytagnepjmgkoboaa", sum := "3337223e5c0dada556ed83eb7ab72afa834b700e3195675a39c6217c6f5105d4", func := "tidemark/tidemarklaw9.HeapFull", spec := "heapFull", unfollowed := true, recurses := true, apart := false, narrowed := true }
def HeapFullUptoSaid : Prop := heapFullUptoRow.holds Try.pinned (OpenSpec.upto heapFullSpec)

/-- 'tidemarklaw9.HeapGraphs', WHERE WHAT IT READS IS OF BULK AT MOST 1048576: true; the input reads as it did. -/
def heapGraphsUptoRow : OpenClaim := { program := "ytagnepjmgkoboaa", sum := "3337223e5c0dada556ed83eb7ab72afa834b700e3195675a39c6217c6f5105d4", func := "tidemark/tidemarklaw9.HeapGraphs", spec := "heapGraphs", unfollowed := true, recurses := true, apart := false, narrowed := true }
def HeapGraphsUptoSaid : Prop := heapGraphsUptoRow.holds Try.pinned (OpenSpec.upto heapGraphsSpec)

/-- 'tidemarklaw9.HeapKnown', WHERE WHAT IT READS IS OF BULK AT MOST 1048576: true; the input reads as it did. -/
def heapKnownUptoRow : OpenClaim := { program := "ytagnepjmgkoboaa", sum := "3337223e5c0dada556ed83eb7ab72afa834b700e3195675a39c6217c6f5105d4", func := "tidemark/tidemarklaw9.HeapKnown", spec := "heapKnown", unfollowed := true, recurses := true, apart := false, narrowed := true }
def HeapKnownUptoSaid : Prop := heapKnownUptoRow.holds Try.pinned (OpenSpec.upto heapKnownSpec)

/-- 'tidemarklaw9.HeapPlays', WHERE WHAT IT READS IS OF BULK AT MOST 1048576: true; the input reads as it did. -/
def heapPlaysUptoRow : OpenClaim := { program := "ytagnepjmgkoboaa", sum := "3337223e5c0dada556ed83eb7ab72afa834b700e3195675a39c6217c6f5105d4", func := "tidemark/tidemarklaw9.HeapPlays", spec := "heapPlays", unfollowed := true, recurses := true, apart := false, narrowed := true }
def HeapPlaysUptoSaid : Prop := heapPlaysUptoRow.holds Try.pinned (OpenSpec.upto heapPlaysSpec)

end Rows
end Go.Proofs.Ytagnepjmgkoboaa
