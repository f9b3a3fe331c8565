/-
  No cell of these rows narrows 'for every input' (looked for: loops, veiled, ifaces, maps, wideKeys, modest, calm, conditions, laid).
  DERIVED. THE GIVEN ROWS OF THIS SEAT. 5 by the template 'for every input the law returns true; each argument reads behind the call as it read before'; 0 by the template 'total and deterministic' (their statements: YtchneedpgpocnaaTotals.lean).
  GIVEN WITH THE SEED: the statements are not yours to turn. If you find one false, say at which input.
  Laid BY PROGRAM, IN A SANDBOX (cutbox-rows.mjs): the forced cells as the released guide's own fill.sh prints them over the translation 0c4d9e3e1351fb32… (all of the seat's roots in one cut). By AI agents, Wed Nov 11 2026. No macro, syntax, notation, axiom, sorry.
-/
import Derived.Test.YtchneedpgpocnaaChecked
import GoSem.Claim
import GoSem.ClaimJoined
import GoSem.ClaimMapViews
import Derived.JoinedTies
import Derived.KernelRfl
namespace Go.Proofs.Ytchneedpgpocnaa
/- THE CELL 'sum', in the pinned program and in every row, IS THE sha256 OF THE DUMP (.gsa) THAT YtchneedpgpocnaaProg.lean LOADS. Nothing in Lean hashes anything: it is a label: what it is worth is what the hold of that sum in a sandbox is worth. -/
noncomputable def Try.pinned : Pinned := { name := "ytchneedpgpocnaa", sum := "0c4d9e3e1351fb32329c62fa7f0e81a10028404c562fd850ec865ebf6e45a270", checked := Try.checked }
namespace Rows
def none {H : Type} : Left H := { results := [], args := [] }

/-- 'calliperlaw13.QueueWhole': WHATEVER THE INPUT: true; the input reads as it did. -/
def queueWholeSpec : ChangeSpec := { name := "queueWhole", fn := fun _ => fun
  | [d1, d2, d3] => { results := [.lit (.bool true)], args := [d1, d2, d3] }
  | _ => none }
def queueWholeRow : OpenClaim := { program := "ytchneedpgpocnaa", sum := "0c4d9e3e1351fb32329c62fa7f0e81a10028404c562fd850ec865ebf6e45a270", func := "calliper/calliperlaw13.QueueWhole", spec := "queueWhole", unfollowed := true, recurses := true, apart := false }
def QueueWholeSaid : Prop := queueWholeRow.holds Try.pinned (OpenSpec.ofChange queueWholeSpec)

/-- ITS FALSE NEIGHBOUR: 'it returns false'. Refute it at one input. -/
def queueWholeWrong : ChangeSpec := { name := "queueWhole", fn := fun _ => fun
  | [d1, d2, d3] => { results := [.lit (.bool false)], args := [d1, d2, d3] }
  | _ => none }
def QueueWholeWrongFalsely : Prop := queueWholeRow.holds Try.pinned (OpenSpec.ofChange queueWholeWrong)

/-- 'calliperlaw13.QueueLists': WHATEVER THE INPUT: true; the input reads as it did. -/
def queueListsSpec : ChangeSpec := { name := "queueLists", fn := fun _ => fun
  | [d1, d2, d3, d4] => { results := [.lit (.bool true)], args := [d1, d2, d3, d4] }
  | _ => none }
def queueListsRow : OpenClaim := { program := "ytchneedpgpocnaa", sum := "0c4d9e3e1351fb32329c62fa7f0e81a10028404c562fd850ec865ebf6e45a270", func := "calliper/calliperlaw13.QueueLists", spec := "queueLists", unfollowed := true, recurses := true, apart := false }
def QueueListsSaid : Prop := queueListsRow.holds Try.pinned (OpenSpec.ofChange queueListsSpec)

/-- ITS FALSE NEIGHBOUR: 'it returns false'. Refute it at one input. -/
def queueListsWrong : ChangeSpec := { name := "queueLists", fn := fun _ => fun
  | [d1, d2, d3, d4] => { results := [.lit (.bool false)], args := [d1, d2, d3, d4] }
  | _ => none }
def QueueListsWrongFalsely : Prop := queueListsRow.holds Try.pinned (OpenSpec.ofChange queueListsWrong)

/-- 'calliperlaw13.QueueSlides': WHATEVER THE INPUT: true; the input reads as it did. -/
def queueSlidesSpec : ChangeSpec := { name := "queueSlides", fn := fun _ => fun
  | [d1, d2, d3] => { results := [.lit (.bool true)], args := [d1, d2, d3] }
  | _ => none }
def queueSlidesRow : OpenClaim := { program := "ytchneedpgpocnaa", sum := "0c4d9e3e1351fb32329c62fa7f0e81a10028404c562fd850ec865ebf6e45a270", func := "calliper/calliperlaw13.QueueSlides", spec := "queueSlides", unfollowed := true, recurses := true, apart := false }
def QueueSlidesSaid : Prop := queueSlidesRow.holds Try.pinned (OpenSpec.ofChange queueSlidesSpec)

/-- ITS FALSE NEIGHBOUR: 'it returns false'. Refute it at one input. -/
def queueSlidesWrong : ChangeSpec := { name := "queueSlides", fn := fun _ => fun
  | [d1, d2, d3] => { results := [.lit (.bool false)], args := [d1, d2, d3] }
  | _ => none }
def QueueSlidesWrongFalsely : Prop := queueSlidesRow.holds Try.pinned (OpenSpec.ofChange queueSlidesWrong)

/-- 'calliperlaw13.QueuePlays': WHATEVER THE INPUT: true; the input reads as it did. -/
def queuePlaysSpec : ChangeSpec := { name := "queuePlays", fn := fun _ => fun
  | [d1, d2] => { results := [.lit (.bool true)], args := [d1, d2] }
  | _ => none }
def queuePlaysRow : OpenClaim := { program := "ytchneedpgpocnaa", sum := "0c4d9e3e1351fb32329c62fa7f0e81a10028404c562fd850ec865ebf6e45a270", func := "calliper/calliperlaw13.QueuePlays", spec := "queuePlays", unfollowed := true, recurses := true, apart := false }
def QueuePlaysSaid : Prop := queuePlaysRow.holds Try.pinned (OpenSpec.ofChange queuePlaysSpec)

/-- ITS FALSE NEIGHBOUR: 'it returns false'. Refute it at one input. -/
def queuePlaysWrong : ChangeSpec := { name := "queuePlays", fn := fun _ => fun
  | [d1, d2] => { results := [.lit (.bool false)], args := [d1, d2] }
  | _ => none }
def QueuePlaysWrongFalsely : Prop := queuePlaysRow.holds Try.pinned (OpenSpec.ofChange queuePlaysWrong)

/-- 'calliperlaw13.QueueBounds': WHATEVER THE INPUT: true; the input reads as it did. -/
def queueBoundsSpec : ChangeSpec := { name := "queueBounds", fn := fun _ => fun
  | [d1, d2] => { results := [.lit (.bool true)], args := [d1, d2] }
  | _ => none }
def queueBoundsRow : OpenClaim := { program := "ytchneedpgpocnaa", sum := "0c4d9e3e1351fb32329c62fa7f0e81a10028404c562fd850ec865ebf6e45a270", func := "calliper/calliperlaw13.QueueBounds", spec := "queueBounds", unfollowed := true, recurses := true, apart := false }
def QueueBoundsSaid : Prop := queueBoundsRow.holds Try.pinned (OpenSpec.ofChange queueBoundsSpec)

/-- ITS FALSE NEIGHBOUR: 'it returns false'. Refute it at one input. -/
def queueBoundsWrong : ChangeSpec := { name := "queueBounds", fn := fun _ => fun
  | [d1, d2] => { results := [.lit (.bool false)], args := [d1, d2] }
  | _ => none }
def QueueBoundsWrongFalsely : Prop := queueBoundsRow.holds Try.pinned (OpenSpec.ofChange queueBoundsWrong)

/- THE SECOND FORM. 'bulk': how many values and letters a reading holds, each counted each time it is reached (what is shared counts as often as it is met; a slice's spare places count too). A statement '..UptoSaid' is the law's where the arguments, and the package variables that the reading takes, are together of bulk at most 1048576: NARROWER than '..Said'. Prove '..Said' where nothing that the law and all that it calls make is longer than what came in: it says more and counts as full. Else prove '..UptoSaid'. A law counts once. -/
mutual
def uptoBulk {H : Type} : DataW H → Nat
  | .lit (.string bytes) => bytes.length + 1
  | .lit _ => 1
  | .nil => 1
  | .ptr d => uptoBulk d + 1
  | .slice elems spare => uptoBulkAll elems + uptoBulkAll spare + 1
  | .agg parts => uptoBulkAll parts + 1
  | .iface _ d => uptoBulk d + 1
  | .map entries => uptoBulkEntries entries + 1
  | .held _ => 1
def uptoBulkAll {H : Type} : List (DataW H) → Nat
  | [] => 0
  | d :: r => uptoBulk d + uptoBulkAll r
def uptoBulkEntries {H : Type} : List (Lit × DataW H) → Nat
  | [] => 0
  | x :: r => uptoBulkEntry x + uptoBulkEntries r
def uptoBulkEntry {H : Type} : Lit × DataW H → Nat
  | (.string bytes, d) => bytes.length + uptoBulk d + 1
  | (_, d) => uptoBulk d + 1
 end
def uptoSmall : (H : Type) → List (DataW H) → Bool := fun _ ds => decide (uptoBulkAll ds ≤ 1048576)
def OpenSpec.upto (s : _root_.Go.ChangeSpec) : _root_.Go.OpenSpec := { _root_.Go.OpenSpec.ofChange s with cond := some uptoSmall }

/-- 'calliperlaw13.QueueWhole', WHERE WHAT IT READS IS OF BULK AT MOST 1048576: true; the input reads as it did. -/
def queueWholeUptoRow : OpenClaim := { program := "ytchneedpgpocnaa", sum := "0c4d9e3e1351fb32329c62fa7f0e81a10028404c562fd850ec865ebf6e45a270", func := "calliper/calliperlaw13.QueueWhole", spec := "queueWhole", unfollowed := true, recurses := true, apart := false, narrowed := true }
def QueueWholeUptoSaid : Prop := queueWholeUptoRow.holds Try.pinned (OpenSpec.upto queueWholeSpec)

/-- 'calliperlaw13.QueueLists', WHERE WHAT IT READS IS OF BULK AT MOST 1048576: true; the input reads as it did. -/
def queueListsUptoRow : OpenClaim := { program := "ytchneedpgpocnaa", sum := "0c4d9e3e1351fb32329c62fa7f0e81a10028404c562fd850ec865ebf6e45a270", func := "calliper/calliperlaw13.QueueLists", spec := "queueLists", unfollowed := true, recurses := true, apart := false, narrowed := true }
def QueueListsUptoSaid : Prop := queueListsUptoRow.holds Try.pinned (OpenSpec.upto queueListsSpec)

/-- 'calliperlaw13.QueueSlides', WHERE WHAT IT READS IS OF BULK AT MOST 1048576: true; the input reads as it did. -/
def queueSlidesUptoRow : OpenClaim := { program := "ytchneedpgpocnaa", sum := "0c4d9e3e1351fb32329c62fa7f0e81a10028404c562fd850ec865ebf6e45a270", func := "calliper/calliperlaw13.QueueSlides", spec := "queueSlides", unfollowed := true, recurses := true, apart := false, narrowed := true }
def QueueSlidesUptoSaid : Prop := queueSlidesUptoRow.holds Try.pinned (OpenSpec.upto queueSlidesSpec)

/-- 'calliperlaw13.QueuePlays', WHERE WHAT IT READS IS OF BULK AT MOST 1048576: true; the input reads as it did. -/
def queuePlaysUptoRow : OpenClaim := { program := "ytchneedpgpocnaa", sum := "0c4d9e3e1351fb32329c62fa7f0e81a10028404c562fd850ec865ebf6e45a270", func := "calliper/calliperlaw13.QueuePlays", spec := "queuePlays", unfollowed := true, recurses := true, apart := false, narrowed := true }
def QueuePlaysUptoSaid : Prop := queuePlaysUptoRow.holds Try.pinned (OpenSpec.upto queuePlaysSpec)

/-- 'calliperlaw13.QueueBounds', WHERE WHAT IT READS IS OF BULK AT MOST 1048576: true; the input reads as it did. -/
def queueBoundsUptoRow : OpenClaim := { program := "ytchneedpgpocnaa", sum := "0c4d9e3e1351fb32329c62fa7f0e81a10028404c562fd850ec865ebf6e45a270", func := "calliper/calliperlaw13.QueueBounds", spec := "queueBounds", unfollowed := true, recurses := true, apart := false, narrowed := true }
def QueueBoundsUptoSaid : Prop := queueBoundsUptoRow.holds Try.pinned (OpenSpec.upto queueBoundsSpec)

end Rows
end Go.Proofs.Ytchneedpgpocnaa
