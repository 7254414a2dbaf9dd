/-
  No cell of these rows narrows 'for every input' (looked for: loops, veiled, ifaces, maps, wideKeys, modest, calm, conditions, laid).
  DERIVED. THE GIVEN ROWS OF THIS SEAT. 5 by the template 'for every input the law returns true; each argument reads behind the call as it read before'; 0 by the template 'total and deterministic' (their statements: YtpicofkhioalkaaGreatTotals.lean).
  GIVEN WITH THE SEED: the statements are not yours to turn. If you find one false, say at which input.
  Laid BY PROGRAM, IN A SANDBOX (cutbox-rows.mjs): the forced cells as the released guide's own fill.sh prints them over the translation 96a6d6d4f3cded94… (all of the seat's roots in one cut). By AI agents, Wed Nov 11 2026. No macro, syntax, notation, axiom, sorry.
-/
import Derived.Test.YtpicofkhioalkaaGreatChecked
import GoSem.Claim
import GoSem.ClaimJoined
import GoSem.ClaimMapViews
import Derived.JoinedTies
import Derived.KernelRfl
namespace Go.Proofs.YtpicofkhioalkaaGreat
/- THE CELL 'sum', in the pinned program and in every row, IS THE sha256 OF THE DUMP (.gsa) THAT YtpicofkhioalkaaGreatProg.lean LOADS. Nothing in Lean hashes anything: it is a label: what it is worth is what the hold of that sum in a sandbox is worth. -/
noncomputable def Tryz.pinned : Pinned := { name := "ytpicofkhioalkaagreat", sum := "96a6d6d4f3cded945d538caba1d5aadcfedb8acfd59c78920f6a6d2887e4d6fc", checked := Tryz.checked }
namespace Rows
def none {H : Type} : Left H := { results := [], args := [] }

/-- 'tidemarklaw13.TreeWalks': WHATEVER THE INPUT: true; the input reads as it did. -/
def treeWalksSpec : ChangeSpec := { name := "treeWalks", fn := fun _ => fun
  | [d] => { results := [.lit (.bool true)], args := [d] }
  | _ => none }
def treeWalksRow : OpenClaim := { program := "ytpicofkhioalkaagreat", sum := "96a6d6d4f3cded945d538caba1d5aadcfedb8acfd59c78920f6a6d2887e4d6fc", func := "tidemark/tidemarklaw13.TreeWalks", spec := "treeWalks", inPlace := ["internal/bytealg.abigen_runtime_cmpstring", "slices.overlaps[tidemark/tree.pair]"], unfollowed := true, recurses := true, apart := false }
def TreeWalksSaid : Prop := treeWalksRow.holds Tryz.pinned (OpenSpec.ofChange treeWalksSpec)

/-- ITS FALSE NEIGHBOUR: 'it returns false'. Refute it at one input. -/
def treeWalksWrong : ChangeSpec := { name := "treeWalks", fn := fun _ => fun
  | [d] => { results := [.lit (.bool false)], args := [d] }
  | _ => none }
def TreeWalksWrongFalsely : Prop := treeWalksRow.holds Tryz.pinned (OpenSpec.ofChange treeWalksWrong)

/-- 'tidemarklaw13.TreeKnown': WHATEVER THE INPUT: true; the input reads as it did. -/
def treeKnownSpec : ChangeSpec := { name := "treeKnown", fn := fun _ => fun
  | [] => { results := [.lit (.bool true)], args := [] }
  | _ => none }
def treeKnownRow : OpenClaim := { program := "ytpicofkhioalkaagreat", sum := "96a6d6d4f3cded945d538caba1d5aadcfedb8acfd59c78920f6a6d2887e4d6fc", func := "tidemark/tidemarklaw13.TreeKnown", spec := "treeKnown", inPlace := ["internal/bytealg.abigen_runtime_cmpstring", "slices.overlaps[tidemark/tree.pair]"], unfollowed := true, recurses := true, apart := false }
def TreeKnownSaid : Prop := treeKnownRow.holds Tryz.pinned (OpenSpec.ofChange treeKnownSpec)

/-- ITS FALSE NEIGHBOUR: 'it returns false'. Refute it at one input. -/
def treeKnownWrong : ChangeSpec := { name := "treeKnown", fn := fun _ => fun
  | [] => { results := [.lit (.bool false)], args := [] }
  | _ => none }
def TreeKnownWrongFalsely : Prop := treeKnownRow.holds Tryz.pinned (OpenSpec.ofChange treeKnownWrong)

/-- 'tidemarklaw13.TreeMany': WHATEVER THE INPUT: true; the input reads as it did. -/
def treeManySpec : ChangeSpec := { name := "treeMany", fn := fun _ => fun
  | [d1, d2] => { results := [.lit (.bool true)], args := [d1, d2] }
  | _ => none }
def treeManyRow : OpenClaim := { program := "ytpicofkhioalkaagreat", sum := "96a6d6d4f3cded945d538caba1d5aadcfedb8acfd59c78920f6a6d2887e4d6fc", func := "tidemark/tidemarklaw13.TreeMany", spec := "treeMany", inPlace := ["internal/bytealg.abigen_runtime_cmpstring", "slices.overlaps[tidemark/tree.pair]"], unfollowed := true, recurses := true, apart := false }
def TreeManySaid : Prop := treeManyRow.holds Tryz.pinned (OpenSpec.ofChange treeManySpec)

/-- ITS FALSE NEIGHBOUR: 'it returns false'. Refute it at one input. -/
def treeManyWrong : ChangeSpec := { name := "treeMany", fn := fun _ => fun
  | [d1, d2] => { results := [.lit (.bool false)], args := [d1, d2] }
  | _ => none }
def TreeManyWrongFalsely : Prop := treeManyRow.holds Tryz.pinned (OpenSpec.ofChange treeManyWrong)

/-- 'tidemarklaw13.TreeRoom': WHATEVER THE INPUT: true; the input reads as it did. -/
def treeRoomSpec : ChangeSpec := { name := "treeRoom", fn := fun _ => fun
  | [d1, d2] => { results := [.lit (.bool true)], args := [d1, d2] }
  | _ => none }
def treeRoomRow : OpenClaim := { program := "ytpicofkhioalkaagreat", sum := "96a6d6d4f3cded945d538caba1d5aadcfedb8acfd59c78920f6a6d2887e4d6fc", func := "tidemark/tidemarklaw13.TreeRoom", spec := "treeRoom", inPlace := ["internal/bytealg.abigen_runtime_cmpstring", "slices.overlaps[tidemark/tree.pair]"], unfollowed := true, recurses := true, apart := false }
def TreeRoomSaid : Prop := treeRoomRow.holds Tryz.pinned (OpenSpec.ofChange treeRoomSpec)

/-- ITS FALSE NEIGHBOUR: 'it returns false'. Refute it at one input. -/
def treeRoomWrong : ChangeSpec := { name := "treeRoom", fn := fun _ => fun
  | [d1, d2] => { results := [.lit (.bool false)], args := [d1, d2] }
  | _ => none }
def TreeRoomWrongFalsely : Prop := treeRoomRow.holds Tryz.pinned (OpenSpec.ofChange treeRoomWrong)

/-- 'tidemarklaw13.TreePlays': WHATEVER THE INPUT: true; the input reads as it did. -/
def treePlaysSpec : ChangeSpec := { name := "treePlays", fn := fun _ => fun
  | [d] => { results := [.lit (.bool true)], args := [d] }
  | _ => none }
def treePlaysRow : OpenClaim := { program := "ytpicofkhioalkaagreat", sum := "96a6d6d4f3cded945d538caba1d5aadcfedb8acfd59c78920f6a6d2887e4d6fc", func := "tidemark/tidemarklaw13.TreePlays", spec := "treePlays", inPlace := ["internal/bytealg.abigen_runtime_cmpstring", "slices.overlaps[tidemark/tree.pair]"], unfollowed := true, recurses := true, apart := false }
def TreePlaysSaid : Prop := treePlaysRow.holds Tryz.pinned (OpenSpec.ofChange treePlaysSpec)

/-- ITS FALSE NEIGHBOUR: 'it returns false'. Refute it at one input. -/
def treePlaysWrong : ChangeSpec := { name := "treePlays", fn := fun _ => fun
  | [d] => { results := [.lit (.bool false)], args := [d] }
  | _ => none }
def TreePlaysWrongFalsely : Prop := treePlaysRow.holds Tryz.pinned (OpenSpec.ofChange treePlaysWrong)

/- THE SECOND FORM. 'bulk': how many values and letters a reading holds, each counted each time it is reached (what is shared counts as often as it is met; a slice's spare places count too). A statement '..UptoSaid' is the law's where the arguments, and the package variables that the reading takes, are together of bulk at most 1048576: NARROWER than '..Said'. Prove '..Said' where nothing that the law and all that it calls make is longer than what came in: it says more and counts as full. Else prove '..UptoSaid'. A law counts once. -/
mutual
def uptoBulk {H : Type} : DataW H → Nat
  | .lit (.string bytes) => bytes.length + 1
  | .lit _ => 1
  | .nil => 1
  | .ptr d => uptoBulk d + 1
  | .slice elems spare => uptoBulkAll elems + uptoBulkAll spare + 1
  | .agg parts => uptoBulkAll parts + 1
  | .iface _ d => uptoBulk d + 1
  | .map entries => uptoBulkEntries entries + 1
  | .held _ => 1
def uptoBulkAll {H : Type} : List (DataW H) → Nat
  | [] => 0
  | d :: r => uptoBulk d + uptoBulkAll r
def uptoBulkEntries {H : Type} : List (Lit × DataW H) → Nat
  | [] => 0
  | x :: r => uptoBulkEntry x + uptoBulkEntries r
def uptoBulkEntry {H : Type} : Lit × DataW H → Nat
  | (.string bytes, d) => bytes.length + uptoBulk d + 1
  | (_, d) => uptoBulk d + 1
 end
def uptoSmall : (H : Type) → List (DataW H) → Bool := fun _ ds => decide (uptoBulkAll ds ≤ 1048576)
def OpenSpec.upto (s : _root_.Go.ChangeSpec) : _root_.Go.OpenSpec := { _root_.Go.OpenSpec.ofChange s with cond := some uptoSmall }

/-- 'tidemarklaw13.TreeWalks', WHERE WHAT IT READS IS OF BULK AT MOST 1048576: true; the input reads as it did. -/
def treeWalksUptoRow : OpenClaim := { program := "ytpicofkhioalkaagreat", sum := "96a6d6d4f3cded945d538caba1d5aadcfedb8acfd59c78920f6a6d2887e4d6fc", func := "tidemark/tidemarklaw13.TreeWalks", spec := "treeWalks", inPlace := ["internal/bytealg.abigen_runtime_cmpstring", "slices.overlaps[tidemark/tree.pair]"], unfollowed := true, recurses := true, apart := false, narrowed := true }
def TreeWalksUptoSaid : Prop := treeWalksUptoRow.holds Tryz.pinned (OpenSpec.upto treeWalksSpec)

/-- 'tidemarklaw13.TreeKnown', WHERE WHAT IT READS IS OF BULK AT MOST 1048576: true; the input reads as it did. -/
def treeKnownUptoRow : OpenClaim := { program := "ytpicofkhioalkaagreat", sum := "96a6d6d4f3cded945d538caba1d5aadcfedb8acfd59c78920f6a6d2887e4d6fc", func := "tidemark/tidemarklaw13.TreeKnown", spec := "treeKnown", inPlace := ["internal/bytealg.abigen_runtime_cmpstring", "slices.overlaps[tidemark/tree.pair]"], unfollowed := true, recurses := true, apart := false, narrowed := true }
def TreeKnownUptoSaid : Prop := treeKnownUptoRow.holds Tryz.pinned (OpenSpec.upto treeKnownSpec)

/-- 'tidemarklaw13.TreeMany', WHERE WHAT IT READS IS OF BULK AT MOST 1048576: true; the input reads as it did. -/
def treeManyUptoRow : OpenClaim := { program := "ytpicofkhioalkaagreat", sum := "96a6d6d4f3cded945d538caba1d5aadcfedb8acfd59c78920f6a6d2887e4d6fc", func := "tidemark/tidemarklaw13.TreeMany", spec := "treeMany", inPlace := ["internal/bytealg.abigen_runtime_cmpstring", "slices.overlaps[tidemark/tree.pair]"], unfollowed := true, recurses := true, apart := false, narrowed := true }
def TreeManyUptoSaid : Prop := treeManyUptoRow.holds Tryz.pinned (OpenSpec.upto treeManySpec)

/-- 'tidemarklaw13.TreeRoom', WHERE WHAT IT READS IS OF BULK AT MOST 1048576: true; the input reads as it did. -/
def treeRoomUptoRow : OpenClaim := { program := "ytpicofkhioalkaagreat", sum := "96a6d6d4f3cded945d538caba1d5aadcfedb8acfd59c78920f6a6d2887e4d6fc", func := "tidemark/tidemarklaw13.TreeRoom", spec := "treeRoom", inPlace := ["internal/bytealg.abigen_runtime_cmpstring", "slices.overlaps[tidemark/tree.pair]"], unfollowed := true, recurses := true, apart := false, narrowed := true }
def TreeRoomUptoSaid : Prop := treeRoomUptoRow.holds Tryz.pinned (OpenSpec.upto treeRoomSpec)

/-- 'tidemarklaw13.TreePlays', WHERE WHAT IT READS IS OF BULK AT MOST 1048576: true; the input reads as it did. -/
def treePlaysUptoRow : OpenClaim := { program := "ytpicofkhioalkaagreat", sum := "96a6d6d4f3cded945d538caba1d5aadcfedb8acfd59c78920f6a6d2887e4d6fc", func := "tidemark/tidemarklaw13.TreePlays", spec := "treePlays", inPlace := ["internal/bytealg.abigen_runtime_cmpstring", "slices.overlaps[tidemark/tree.pair]"], unfollowed := true, recurses := true, apart := false, narrowed := true }
def TreePlaysUptoSaid : Prop := treePlaysUptoRow.holds Tryz.pinned (OpenSpec.upto treePlaysSpec)

end Rows
end Go.Proofs.YtpicofkhioalkaaGreat
