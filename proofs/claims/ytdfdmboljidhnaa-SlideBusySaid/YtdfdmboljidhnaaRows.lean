/-
  No cell of these rows narrows 'for every input' (looked for: loops, veiled, ifaces, maps, wideKeys, modest, calm, conditions, laid).
  DERIVED. THE GIVEN ROWS OF THIS SEAT. 7 by the template 'for every input the law returns true; each argument reads behind the call as it read before'; 0 by the template 'total and deterministic' (their statements: YtdfdmboljidhnaaTotals.lean).
  GIVEN WITH THE SEED: the statements are not yours to turn. If you find one false, say at which input.
  Laid BY PROGRAM, IN A SANDBOX (cutbox-rows.mjs): the forced cells as the released guide's own fill.sh prints them over the translation 043ecac57f84f517… (all of the seat's roots in one cut). By AI agents, Wed Nov 11 2026. No macro, syntax, notation, axiom, sorry.
-/
import Derived.Test.YtdfdmboljidhnaaChecked
import GoSem.Claim
import GoSem.ClaimJoined
import GoSem.ClaimMapViews
import Derived.JoinedTies
import Derived.KernelRfl
namespace Go.Proofs.Ytdfdmboljidhnaa
/- THE CELL 'sum', in the pinned program and in every row, IS THE sha256 OF THE DUMP (.gsa) THAT YtdfdmboljidhnaaProg.lean LOADS. Nothing in Lean hashes anything: it is a label: what it is worth is what the hold of that sum in a sandbox is worth. -/
noncomputable def Try.pinned : Pinned := { name := "ytdfdmboljidhnaa", sum := "043ecac57f84f517a9cb422d74152c90c59cc3df35b0510f890379e22b230001", checked := Try.checked }
namespace Rows
def none {H : Type} : Left H := { results := [], args := [] }

/-- 'tidemarklaw11.SlideKnown': WHATEVER THE INPUT: true; the input reads as it did. -/
def slideKnownSpec : ChangeSpec := { name := "slideKnown", fn := fun _ => fun
  | [] => { results := [.lit (.bool true)], args := [] }
  | _ => none }
def slideKnownRow : OpenClaim := { program := "ytdfdmboljidhnaa", sum := "043ecac57f84f517a9cb422d74152c90c59cc3df35b0510f890379e22b230001", func := "tidemark/tidemarklaw11.SlideKnown", spec := "slideKnown", unfollowed := true, recurses := true, apart := false }
def SlideKnownSaid : Prop := slideKnownRow.holds Try.pinned (OpenSpec.ofChange slideKnownSpec)

/-- ITS FALSE NEIGHBOUR: 'it returns false'. Refute it at one input. -/
def slideKnownWrong : ChangeSpec := { name := "slideKnown", fn := fun _ => fun
  | [] => { results := [.lit (.bool false)], args := [] }
  | _ => none }
def SlideKnownWrongFalsely : Prop := slideKnownRow.holds Try.pinned (OpenSpec.ofChange slideKnownWrong)

/-- 'tidemarklaw11.SlideSteps': WHATEVER THE INPUT: true; the input reads as it did. -/
def slideStepsSpec : ChangeSpec := { name := "slideSteps", fn := fun _ => fun
  | [d1, d2] => { results := [.lit (.bool true)], args := [d1, d2] }
  | _ => none }
def slideStepsRow : OpenClaim := { program := "ytdfdmboljidhnaa", sum := "043ecac57f84f517a9cb422d74152c90c59cc3df35b0510f890379e22b230001", func := "tidemark/tidemarklaw11.SlideSteps", spec := "slideSteps", unfollowed := true, recurses := true, apart := false }
def SlideStepsSaid : Prop := slideStepsRow.holds Try.pinned (OpenSpec.ofChange slideStepsSpec)

/-- ITS FALSE NEIGHBOUR: 'it returns false'. Refute it at one input. -/
def slideStepsWrong : ChangeSpec := { name := "slideSteps", fn := fun _ => fun
  | [d1, d2] => { results := [.lit (.bool false)], args := [d1, d2] }
  | _ => none }
def SlideStepsWrongFalsely : Prop := slideStepsRow.holds Try.pinned (OpenSpec.ofChange slideStepsWrong)

/-- 'tidemarklaw11.SlideAgain': WHATEVER THE INPUT: true; the input reads as it did. -/
def slideAgainSpec : ChangeSpec := { name := "slideAgain", fn := fun _ => fun
  | [d1, d2] => { results := [.lit (.bool true)], args := [d1, d2] }
  | _ => none }
def slideAgainRow : OpenClaim := { program := "ytdfdmboljidhnaa", sum := "043ecac57f84f517a9cb422d74152c90c59cc3df35b0510f890379e22b230001", func := "tidemark/tidemarklaw11.SlideAgain", spec := "slideAgain", unfollowed := true, recurses := true, apart := false }
def SlideAgainSaid : Prop := slideAgainRow.holds Try.pinned (OpenSpec.ofChange slideAgainSpec)

/-- ITS FALSE NEIGHBOUR: 'it returns false'. Refute it at one input. -/
def slideAgainWrong : ChangeSpec := { name := "slideAgain", fn := fun _ => fun
  | [d1, d2] => { results := [.lit (.bool false)], args := [d1, d2] }
  | _ => none }
def SlideAgainWrongFalsely : Prop := slideAgainRow.holds Try.pinned (OpenSpec.ofChange slideAgainWrong)

/-- 'tidemarklaw11.SlideRoom': WHATEVER THE INPUT: true; the input reads as it did. -/
def slideRoomSpec : ChangeSpec := { name := "slideRoom", fn := fun _ => fun
  | [d1, d2] => { results := [.lit (.bool true)], args := [d1, d2] }
  | _ => none }
def slideRoomRow : OpenClaim := { program := "ytdfdmboljidhnaa", sum := "043ecac57f84f517a9cb422d74152c90c59cc3df35b0510f890379e22b230001", func := "tidemark/tidemarklaw11.SlideRoom", spec := "slideRoom", unfollowed := true, recurses := true, apart := false }
def SlideRoomSaid : Prop := slideRoomRow.holds Try.pinned (OpenSpec.ofChange slideRoomSpec)

/-- ITS FALSE NEIGHBOUR: 'it returns false'. Refute it at one input. -/
def slideRoomWrong : ChangeSpec := { name := "slideRoom", fn := fun _ => fun
  | [d1, d2] => { results := [.lit (.bool false)], args := [d1, d2] }
  | _ => none }
def SlideRoomWrongFalsely : Prop := slideRoomRow.holds Try.pinned (OpenSpec.ofChange slideRoomWrong)

/-- 'tidemarklaw11.SlideBusy': WHATEVER THE INPUT: true; the input reads as it did. -/
def slideBusySpec : ChangeSpec := { name := "slideBusy", fn := fun _ => fun
  | [d1, d2, d3] => { results := [.lit (.bool true)], args := [d1, d2, d3] }
  | _ => none }
def slideBusyRow : OpenClaim := { program := "ytdfdmboljidhnaa", sum := "043ecac57f84f517a9cb422d74152c90c59cc3df35b0510f890379e22b230001", func := "tidemark/tidemarklaw11.SlideBusy", spec := "slideBusy", unfollowed := true, recurses := true, apart := false }
def SlideBusySaid : Prop := slideBusyRow.holds Try.pinned (OpenSpec.ofChange slideBusySpec)

/-- ITS FALSE NEIGHBOUR: 'it returns false'. Refute it at one input. -/
def slideBusyWrong : ChangeSpec := { name := "slideBusy", fn := fun _ => fun
  | [d1, d2, d3] => { results := [.lit (.bool false)], args := [d1, d2, d3] }
  | _ => none }
def SlideBusyWrongFalsely : Prop := slideBusyRow.holds Try.pinned (OpenSpec.ofChange slideBusyWrong)

/-- 'tidemarklaw11.SlideFull': WHATEVER THE INPUT: true; the input reads as it did. -/
def slideFullSpec : ChangeSpec := { name := "slideFull", fn := fun _ => fun
  | [d] => { results := [.lit (.bool true)], args := [d] }
  | _ => none }
def slideFullRow : OpenClaim := { program := "ytdfdmboljidhnaa", sum := "043ecac57f84f517a9cb422d74152c90c59cc3df35b0510f890379e22b230001", func := "tidemark/tidemarklaw11.SlideFull", spec := "slideFull", unfollowed := true, recurses := true, apart := false }
def SlideFullSaid : Prop := slideFullRow.holds Try.pinned (OpenSpec.ofChange slideFullSpec)

/-- ITS FALSE NEIGHBOUR: 'it returns false'. Refute it at one input. -/
def slideFullWrong : ChangeSpec := { name := "slideFull", fn := fun _ => fun
  | [d] => { results := [.lit (.bool false)], args := [d] }
  | _ => none }
def SlideFullWrongFalsely : Prop := slideFullRow.holds Try.pinned (OpenSpec.ofChange slideFullWrong)

/-- 'tidemarklaw11.SlideHalf': WHATEVER THE INPUT: true; the input reads as it did. -/
def slideHalfSpec : ChangeSpec := { name := "slideHalf", fn := fun _ => fun
  | [d1, d2] => { results := [.lit (.bool true)], args := [d1, d2] }
  | _ => none }
def slideHalfRow : OpenClaim := { program := "ytdfdmboljidhnaa", sum := "043ecac57f84f517a9cb422d74152c90c59cc3df35b0510f890379e22b230001", func := "tidemark/tidemarklaw11.SlideHalf", spec := "slideHalf", unfollowed := true, recurses := true, apart := false }
def SlideHalfSaid : Prop := slideHalfRow.holds Try.pinned (OpenSpec.ofChange slideHalfSpec)

/-- ITS FALSE NEIGHBOUR: 'it returns false'. Refute it at one input. -/
def slideHalfWrong : ChangeSpec := { name := "slideHalf", fn := fun _ => fun
  | [d1, d2] => { results := [.lit (.bool false)], args := [d1, d2] }
  | _ => none }
def SlideHalfWrongFalsely : Prop := slideHalfRow.holds Try.pinned (OpenSpec.ofChange slideHalfWrong)

/- THE SECOND FORM. 'bulk': how many values and letters a reading holds, each counted each time it is reached (what is shared counts as often as it is met; a slice's spare places count too). A statement '..UptoSaid' is the law's where the arguments, and the package variables that the reading takes, are together of bulk at most 1048576: NARROWER than '..Said'. Prove '..Said' where nothing that the law and all that it calls make is longer than what came in: it says more and counts as full. Else prove '..UptoSaid'. A law counts once. -/
mutual
def uptoBulk {H : Type} : DataW H → Nat
  | .lit (.string bytes) => bytes.length + 1
  | .lit _ => 1
  | .nil => 1
  | .ptr d => uptoBulk d + 1
  | .slice elems spare => uptoBulkAll elems + uptoBulkAll spare + 1
  | .agg parts => uptoBulkAll parts + 1
  | .iface _ d => uptoBulk d + 1
  | .map entries => uptoBulkEntries entries + 1
  | .held _ => 1
def uptoBulkAll {H : Type} : List (DataW H) → Nat
  | [] => 0
  | d :: r => uptoBulk d + uptoBulkAll r
def uptoBulkEntries {H : Type} : List (Lit × DataW H) → Nat
  | [] => 0
  | x :: r => uptoBulkEntry x + uptoBulkEntries r
def uptoBulkEntry {H : Type} : Lit × DataW H → Nat
  | (.string bytes, d) => bytes.length + uptoBulk d + 1
  | (_, d) => uptoBulk d + 1
 end
def uptoSmall : (H : Type) → List (DataW H) → Bool := fun _ ds => decide (uptoBulkAll ds ≤ 1048576)
def OpenSpec.upto (s : _root_.Go.ChangeSpec) : _root_.Go.OpenSpec := { _root_.Go.OpenSpec.ofChange s with cond := some uptoSmall }

/-- 'tidemarklaw11.SlideKnown', WHERE WHAT IT READS IS OF BULK AT MOST 1048576: true; the input reads as it did. -/
def slideKnownUptoRow : OpenClaim := { program := "ytdfdmboljidhnaa", sum := "043ecac57f84f517a9cb422d74152c90c59cc3df35b0510f890379e22b230001", func := "tidemark/tidemarklaw11.SlideKnown", spec := "slideKnown", unfollowed := true, recurses := true, apart := false, narrowed := true }
def SlideKnownUptoSaid : Prop := slideKnownUptoRow.holds Try.pinned (OpenSpec.upto slideKnownSpec)

/-- 'tidemarklaw11.SlideSteps', WHERE WHAT IT READS IS OF BULK AT MOST 1048576: true; the input reads as it did. -/
def slideStepsUptoRow : OpenClaim := { program := "ytdfdmboljidhnaa", sum := "043ecac57f84f517a9cb422d74152c90c59cc3df35b0510f890379e22b230001", func := "tidemark/tidemarklaw11.SlideSteps", spec := "slideSteps", unfollowed := true, recurses := true, apart := false, narrowed := true }
def SlideStepsUptoSaid : Prop := slideStepsUptoRow.holds Try.pinned (OpenSpec.upto slideStepsSpec)

/-- 'tidemarklaw11.SlideAgain', WHERE WHAT IT READS IS OF BULK AT MOST 1048576: true; the input reads as it did. -/
def slideAgainUptoRow : OpenClaim := { program := "ytdfdmboljidhnaa", sum := "043ecac57f84f517a9cb422d74152c90c59cc3df35b0510f890379e22b230001", func := "tidemark/tidemarklaw11.SlideAgain", spec := "slideAgain", unfollowed := true, recurses := true, apart := false, narrowed := true }
def SlideAgainUptoSaid : Prop := slideAgainUptoRow.holds Try.pinned (OpenSpec.upto slideAgainSpec)

/-- 'tidemarklaw11.SlideRoom', WHERE WHAT IT READS IS OF BULK AT MOST 1048576: true; the input reads as it did. -/
def slideRoomUptoRow : OpenClaim := { program := "ytdfdmboljidhnaa", sum := "043ecac57f84f517a9cb422d74152c90c59cc3df35b0510f890379e22b230001", func := "tidemark/tidemarklaw11.SlideRoom", spec := "slideRoom", unfollowed := true, recurses := true, apart := false, narrowed := true }
def SlideRoomUptoSaid : Prop := slideRoomUptoRow.holds Try.pinned (OpenSpec.upto slideRoomSpec)

/-- 'tidemarklaw11.SlideBusy', WHERE WHAT IT READS IS OF BULK AT MOST 1048576: true; the input reads as it did. -/
def slideBusyUptoRow : OpenClaim := { program := "ytdfdmboljidhnaa", sum := "043ecac57f84f517a9cb422d74152c90c59cc3df35b0510f890379e22b230001", func := "tidemark/tidemarklaw11.SlideBusy", spec := "slideBusy", unfollowed := true, recurses := true, apart := false, narrowed := true }
def SlideBusyUptoSaid : Prop := slideBusyUptoRow.holds Try.pinned (OpenSpec.upto slideBusySpec)

/-- 'tidemarklaw11.SlideFull', WHERE WHAT IT READS IS OF BULK AT MOST 1048576: true; the input reads as it did. -/
def slideFullUptoRow : OpenClaim := { program := "ytdfdmboljidhnaa", sum := "043ecac57f84f517a9cb422d74152c90c59cc3df35b0510f890379e22b230001", func := "tidemark/tidemarklaw11.SlideFull", spec := "slideFull", unfollowed := true, recurses := true, apart := false, narrowed := true }
def SlideFullUptoSaid : Prop := slideFullUptoRow.holds Try.pinned (OpenSpec.upto slideFullSpec)

/-- 'tidemarklaw11.SlideHalf', WHERE WHAT IT READS IS OF BULK AT MOST 1048576: true; the input reads as it did. -/
def slideHalfUptoRow : OpenClaim := { program := "ytdfdmboljidhnaa", sum := "043ecac57f84f517a9cb422d74152c90c59cc3df35b0510f890379e22b230001", func := "tidemark/tidemarklaw11.SlideHalf", spec := "slideHalf", unfollowed := true, recurses := true, apart := false, narrowed := true }
def SlideHalfUptoSaid : Prop := slideHalfUptoRow.holds Try.pinned (OpenSpec.upto slideHalfSpec)

end Rows
end Go.Proofs.Ytdfdmboljidhnaa
