/-
  No cell of these rows narrows 'for every input' (looked for: loops, veiled, ifaces, maps, wideKeys, modest, calm, conditions, laid).
  DERIVED. THE GIVEN ROWS OF THIS SEAT. 5 by the template 'for every input the law returns true; each argument reads behind the call as it read before'; 0 by the template 'total and deterministic' (their statements: YtdlplljmgkfkgaaTotals.lean).
  GIVEN WITH THE SEED: the statements are not yours to turn. If you find one false, say at which input.
  Laid BY PROGRAM, IN A SANDBOX (cutbox-rows.mjs): the forced cells as the released guide's own fill.sh prints them over the translation 07168e615a0c3f7b… (all of the seat's roots in one cut). By AI agents, Wed Nov 11 2026. No macro, syntax, notation, axiom, sorry.
-/
import Derived.Test.YtdlplljmgkfkgaaChecked
import GoSem.Claim
import GoSem.ClaimJoined
import GoSem.ClaimMapViews
import Derived.JoinedTies
import Derived.KernelRfl
namespace Go.Proofs.Ytdlplljmgkfkgaa
/- THE CELL 'sum', in the pinned program and in every row, IS THE sha256 OF THE DUMP (.gsa) THAT YtdlplljmgkfkgaaProg.lean LOADS. Nothing in Lean hashes anything: it is a label: what it is worth is what the hold of that sum in a sandbox is worth. -/
noncomputable def Try.pinned : Pinned := { name := "ytdlplljmgkfkgaa", sum := "07168e615a0c3f7bebd3e81892ada97ded65acb4eae66bf5632d571368eaf621", checked := Try.checked }
namespace Rows
def none {H : Type} : Left H := { results := [], args := [] }

/-- 'tidemarklaw10.MarkDeep': WHATEVER THE INPUT: true; the input reads as it did. -/
def markDeepSpec : ChangeSpec := { name := "markDeep", fn := fun _ => fun
  | [d1, d2, d3] => { results := [.lit (.bool true)], args := [d1, d2, d3] }
  | _ => none }
def markDeepRow : OpenClaim := { program := "ytdlplljmgkfkgaa", sum := "07168e615a0c3f7bebd3e81892ada97ded65acb4eae66bf5632d571368eaf621", func := "tidemark/tidemarklaw10.MarkDeep", spec := "markDeep", unfollowed := true, recurses := true, apart := false }
def MarkDeepSaid : Prop := markDeepRow.holds Try.pinned (OpenSpec.ofChange markDeepSpec)

/-- ITS FALSE NEIGHBOUR: 'it returns false'. Refute it at one input. -/
def markDeepWrong : ChangeSpec := { name := "markDeep", fn := fun _ => fun
  | [d1, d2, d3] => { results := [.lit (.bool false)], args := [d1, d2, d3] }
  | _ => none }
def MarkDeepWrongFalsely : Prop := markDeepRow.holds Try.pinned (OpenSpec.ofChange markDeepWrong)

/-- 'tidemarklaw10.MarkKnown': WHATEVER THE INPUT: true; the input reads as it did. -/
def markKnownSpec : ChangeSpec := { name := "markKnown", fn := fun _ => fun
  | [] => { results := [.lit (.bool true)], args := [] }
  | _ => none }
def markKnownRow : OpenClaim := { program := "ytdlplljmgkfkgaa", sum := "07168e615a0c3f7bebd3e81892ada97ded65acb4eae66bf5632d571368eaf621", func := "tidemark/tidemarklaw10.MarkKnown", spec := "markKnown", unfollowed := true, recurses := true, apart := false }
def MarkKnownSaid : Prop := markKnownRow.holds Try.pinned (OpenSpec.ofChange markKnownSpec)

/-- ITS FALSE NEIGHBOUR: 'it returns false'. Refute it at one input. -/
def markKnownWrong : ChangeSpec := { name := "markKnown", fn := fun _ => fun
  | [] => { results := [.lit (.bool false)], args := [] }
  | _ => none }
def MarkKnownWrongFalsely : Prop := markKnownRow.holds Try.pinned (OpenSpec.ofChange markKnownWrong)

/-- 'tidemarklaw10.MarkAgain': WHATEVER THE INPUT: true; the input reads as it did. -/
def markAgainSpec : ChangeSpec := { name := "markAgain", fn := fun _ => fun
  | [d1, d2] => { results := [.lit (.bool true)], args := [d1, d2] }
  | _ => none }
def markAgainRow : OpenClaim := { program := "ytdlplljmgkfkgaa", sum := "07168e615a0c3f7bebd3e81892ada97ded65acb4eae66bf5632d571368eaf621", func := "tidemark/tidemarklaw10.MarkAgain", spec := "markAgain", unfollowed := true, recurses := true, apart := false }
def MarkAgainSaid : Prop := markAgainRow.holds Try.pinned (OpenSpec.ofChange markAgainSpec)

/-- ITS FALSE NEIGHBOUR: 'it returns false'. Refute it at one input. -/
def markAgainWrong : ChangeSpec := { name := "markAgain", fn := fun _ => fun
  | [d1, d2] => { results := [.lit (.bool false)], args := [d1, d2] }
  | _ => none }
def MarkAgainWrongFalsely : Prop := markAgainRow.holds Try.pinned (OpenSpec.ofChange markAgainWrong)

/-- 'tidemarklaw10.MarkBusy': WHATEVER THE INPUT: true; the input reads as it did. -/
def markBusySpec : ChangeSpec := { name := "markBusy", fn := fun _ => fun
  | [d1, d2, d3] => { results := [.lit (.bool true)], args := [d1, d2, d3] }
  | _ => none }
def markBusyRow : OpenClaim := { program := "ytdlplljmgkfkgaa", sum := "07168e615a0c3f7bebd3e81892ada97ded65acb4eae66bf5632d571368eaf621", func := "tidemark/tidemarklaw10.MarkBusy", spec := "markBusy", unfollowed := true, recurses := true, apart := false }
def MarkBusySaid : Prop := markBusyRow.holds Try.pinned (OpenSpec.ofChange markBusySpec)

/-- ITS FALSE NEIGHBOUR: 'it returns false'. Refute it at one input. -/
def markBusyWrong : ChangeSpec := { name := "markBusy", fn := fun _ => fun
  | [d1, d2, d3] => { results := [.lit (.bool false)], args := [d1, d2, d3] }
  | _ => none }
def MarkBusyWrongFalsely : Prop := markBusyRow.holds Try.pinned (OpenSpec.ofChange markBusyWrong)

/-- 'tidemarklaw10.MarkStill': WHATEVER THE INPUT: true; the input reads as it did. -/
def markStillSpec : ChangeSpec := { name := "markStill", fn := fun _ => fun
  | [d1, d2] => { results := [.lit (.bool true)], args := [d1, d2] }
  | _ => none }
def markStillRow : OpenClaim := { program := "ytdlplljmgkfkgaa", sum := "07168e615a0c3f7bebd3e81892ada97ded65acb4eae66bf5632d571368eaf621", func := "tidemark/tidemarklaw10.MarkStill", spec := "markStill", unfollowed := true, recurses := true, apart := false }
def MarkStillSaid : Prop := markStillRow.holds Try.pinned (OpenSpec.ofChange markStillSpec)

/-- ITS FALSE NEIGHBOUR: 'it returns false'. Refute it at one input. -/
def markStillWrong : ChangeSpec := { name := "markStill", fn := fun _ => fun
  | [d1, d2] => { results := [.lit (.bool false)], args := [d1, d2] }
  | _ => none }
def MarkStillWrongFalsely : Prop := markStillRow.holds Try.pinned (OpenSpec.ofChange markStillWrong)

/- THE SECOND FORM. 'bulk': how many values and letters a reading holds, each counted each time it is reached (what is shared counts as often as it is met; a slice's spare places count too). A statement '..UptoSaid' is the law's where the arguments, and the package variables that the reading takes, are together of bulk at most 1048576: NARROWER than '..Said'. Prove '..Said' where nothing that the law and all that it calls make is longer than what came in: it says more and counts as full. Else prove '..UptoSaid'. A law counts once. -/
mutual
def uptoBulk {H : Type} : DataW H → Nat
  | .lit (.string bytes) => bytes.length + 1
  | .lit _ => 1
  | .nil => 1
  | .ptr d => uptoBulk d + 1
  | .slice elems spare => uptoBulkAll elems + uptoBulkAll spare + 1
  | .agg parts => uptoBulkAll parts + 1
  | .iface _ d => uptoBulk d + 1
  | .map entries => uptoBulkEntries entries + 1
  | .held _ => 1
def uptoBulkAll {H : Type} : List (DataW H) → Nat
  | [] => 0
  | d :: r => uptoBulk d + uptoBulkAll r
def uptoBulkEntries {H : Type} : List (Lit × DataW H) → Nat
  | [] => 0
  | x :: r => uptoBulkEntry x + uptoBulkEntries r
def uptoBulkEntry {H : Type} : Lit × DataW H → Nat
  | (.string bytes, d) => bytes.length + uptoBulk d + 1
  | (_, d) => uptoBulk d + 1
 end
def uptoSmall : (H : Type) → List (DataW H) → Bool := fun _ ds => decide (uptoBulkAll ds ≤ 1048576)
def OpenSpec.upto (s : _root_.Go.ChangeSpec) : _root_.Go.OpenSpec := { _root_.Go.OpenSpec.ofChange s with cond := some uptoSmall }

/-- 'tidemarklaw10.MarkDeep', WHERE WHAT IT READS IS OF BULK AT MOST 1048576: true; the input reads as it did. -/
def markDeepUptoRow : OpenClaim := { program := "ytdlplljmgkfkgaa", sum := "07168e615a0c3f7bebd3e81892ada97ded65acb4eae66bf5632d571368eaf621", func := "tidemark/tidemarklaw10.MarkDeep", spec := "markDeep", unfollowed := true, recurses := true, apart := false, narrowed := true }
def MarkDeepUptoSaid : Prop := markDeepUptoRow.holds Try.pinned (OpenSpec.upto markDeepSpec)

/-- 'tidemarklaw10.MarkKnown', WHERE WHAT IT READS IS OF BULK AT MOST 1048576: true; the input reads as it did. -/
def markKnownUptoRow : OpenClaim := { program := "ytdlplljmgkfkgaa", sum := "07168e615a0c3f7bebd3e81892ada97ded65acb4eae66bf5632d571368eaf621", func := "tidemark/tidemarklaw10.MarkKnown", spec := "markKnown", unfollowed := true, recurses := true, apart := false, narrowed := true }
def MarkKnownUptoSaid : Prop := markKnownUptoRow.holds Try.pinned (OpenSpec.upto markKnownSpec)

/-- 'tidemarklaw10.MarkAgain', WHERE WHAT IT READS IS OF BULK AT MOST 1048576: true; the input reads as it did. -/
def markAgainUptoRow : OpenClaim := { program := "ytdlplljmgkfkgaa", sum := "07168e615a0c3f7bebd3e81892ada97ded65acb4eae66bf5632d571368eaf621", func := "tidemark/tidemarklaw10.MarkAgain", spec := "markAgain", unfollowed := true, recurses := true, apart := false, narrowed := true }
def MarkAgainUptoSaid : Prop := markAgainUptoRow.holds Try.pinned (OpenSpec.upto markAgainSpec)

/-- 'tidemarklaw10.MarkBusy', WHERE WHAT IT READS IS OF BULK AT MOST 1048576: true; the input reads as it did. -/
def markBusyUptoRow : OpenClaim := { program := "ytdlplljmgkfkgaa", sum := "07168e615a0c3f7bebd3e81892ada97ded65acb4eae66bf5632d571368eaf621", func := "tidemark/tidemarklaw10.MarkBusy", spec := "markBusy", unfollowed := true, recurses := true, apart := false, narrowed := true }
def MarkBusyUptoSaid : Prop := markBusyUptoRow.holds Try.pinned (OpenSpec.upto markBusySpec)

/-- 'tidemarklaw10.MarkStill', WHERE WHAT IT READS IS OF BULK AT MOST 1048576: true; the input reads as it did. -/
def markStillUptoRow : OpenClaim := { program := "ytdlplljmgkfkgaa", sum := "07168e615a0c3f7bebd3e81892ada97ded65acb4eae66bf5632d571368eaf621", func := "tidemark/tidemarklaw10.MarkStill", spec := "markStill", unfollowed := true, recurses := true, apart := false, narrowed := true }
def MarkStillUptoSaid : Prop := markStillUptoRow.holds Try.pinned (OpenSpec.upto markStillSpec)

end Rows
end Go.Proofs.Ytdlplljmgkfkgaa
