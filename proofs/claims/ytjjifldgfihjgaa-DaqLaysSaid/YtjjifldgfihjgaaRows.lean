/-
  No cell of these rows narrows 'for every input' (looked for: loops, veiled, ifaces, maps, wideKeys, modest, calm, conditions, laid).
  DERIVED. THE GIVEN ROWS OF THIS SEAT. 6 by the template 'for every input the law returns true; each argument reads behind the call as it read before'; 0 by the template 'total and deterministic' (their statements: YtjjifldgfihjgaaTotals.lean).
  GIVEN WITH THE SEED: the statements are not yours to turn. If you find one false, say at which input.
  Laid BY PROGRAM, IN A SANDBOX (cutbox-rows.mjs): the forced cells as the released guide's own fill.sh prints them over the translation 97dc8a109720021b… (all of the seat's roots in one cut). By AI agents, Wed Nov 11 2026. No macro, syntax, notation, axiom, sorry.
-/
import Derived.Test.YtjjifldgfihjgaaChecked
import GoSem.Claim
import GoSem.ClaimJoined
import GoSem.ClaimMapViews
import Derived.JoinedTies
import Derived.KernelRfl
namespace Go.Proofs.Ytjjifldgfihjgaa
/- THE CELL 'sum', in the pinned program and in every row, IS THE sha256 OF THE DUMP (.gsa) THAT YtjjifldgfihjgaaProg.lean LOADS. Nothing in Lean hashes anything: it is a label: what it is worth is what the hold of that sum in a sandbox is worth. -/
noncomputable def Try.pinned : Pinned := { name := "ytjjifldgfihjgaa", sum := "97dc8a109720021b7ddeff2cb2f259c05103a86179a746992d6bf8e89bfbd726", checked := Try.checked }
namespace Rows
def none {H : Type} : Left H := { results := [], args := [] }

/-- 'calliperlaw11.DaqReady': WHATEVER THE INPUT: true; the input reads as it did. -/
def daqReadySpec : ChangeSpec := { name := "daqReady", fn := fun _ => fun
  | [d] => { results := [.lit (.bool true)], args := [d] }
  | _ => none }
def daqReadyRow : OpenClaim := { program := "ytjjifldgfihjgaa", sum := "97dc8a109720021b7ddeff2cb2f259c05103a86179a746992d6bf8e89bfbd726", func := "calliper/calliperlaw11.DaqReady", spec := "daqReady", unfollowed := true, recurses := true, apart := false }
def DaqReadySaid : Prop := daqReadyRow.holds Try.pinned (OpenSpec.ofChange daqReadySpec)

/-- ITS FALSE NEIGHBOUR: 'it returns false'. Refute it at one input. -/
def daqReadyWrong : ChangeSpec := { name := "daqReady", fn := fun _ => fun
  | [d] => { results := [.lit (.bool false)], args := [d] }
  | _ => none }
def DaqReadyWrongFalsely : Prop := daqReadyRow.holds Try.pinned (OpenSpec.ofChange daqReadyWrong)

/-- 'calliperlaw11.DaqStays': WHATEVER THE INPUT: true; the input reads as it did. -/
def daqStaysSpec : ChangeSpec := { name := "daqStays", fn := fun _ => fun
  | [d] => { results := [.lit (.bool true)], args := [d] }
  | _ => none }
def daqStaysRow : OpenClaim := { program := "ytjjifldgfihjgaa", sum := "97dc8a109720021b7ddeff2cb2f259c05103a86179a746992d6bf8e89bfbd726", func := "calliper/calliperlaw11.DaqStays", spec := "daqStays", unfollowed := true, recurses := true, apart := false }
def DaqStaysSaid : Prop := daqStaysRow.holds Try.pinned (OpenSpec.ofChange daqStaysSpec)

/-- ITS FALSE NEIGHBOUR: 'it returns false'. Refute it at one input. -/
def daqStaysWrong : ChangeSpec := { name := "daqStays", fn := fun _ => fun
  | [d] => { results := [.lit (.bool false)], args := [d] }
  | _ => none }
def DaqStaysWrongFalsely : Prop := daqStaysRow.holds Try.pinned (OpenSpec.ofChange daqStaysWrong)

/-- 'calliperlaw11.DaqLays': WHATEVER THE INPUT: true; the input reads as it did. -/
def daqLaysSpec : ChangeSpec := { name := "daqLays", fn := fun _ => fun
  | [d1, d2, d3] => { results := [.lit (.bool true)], args := [d1, d2, d3] }
  | _ => none }
def daqLaysRow : OpenClaim := { program := "ytjjifldgfihjgaa", sum := "97dc8a109720021b7ddeff2cb2f259c05103a86179a746992d6bf8e89bfbd726", func := "calliper/calliperlaw11.DaqLays", spec := "daqLays", unfollowed := true, recurses := true, apart := false }
def DaqLaysSaid : Prop := daqLaysRow.holds Try.pinned (OpenSpec.ofChange daqLaysSpec)

/-- ITS FALSE NEIGHBOUR: 'it returns false'. Refute it at one input. -/
def daqLaysWrong : ChangeSpec := { name := "daqLays", fn := fun _ => fun
  | [d1, d2, d3] => { results := [.lit (.bool false)], args := [d1, d2, d3] }
  | _ => none }
def DaqLaysWrongFalsely : Prop := daqLaysRow.holds Try.pinned (OpenSpec.ofChange daqLaysWrong)

/-- 'calliperlaw11.DaqOwn': WHATEVER THE INPUT: true; the input reads as it did. -/
def daqOwnSpec : ChangeSpec := { name := "daqOwn", fn := fun _ => fun
  | [d] => { results := [.lit (.bool true)], args := [d] }
  | _ => none }
def daqOwnRow : OpenClaim := { program := "ytjjifldgfihjgaa", sum := "97dc8a109720021b7ddeff2cb2f259c05103a86179a746992d6bf8e89bfbd726", func := "calliper/calliperlaw11.DaqOwn", spec := "daqOwn", unfollowed := true, recurses := true, apart := false }
def DaqOwnSaid : Prop := daqOwnRow.holds Try.pinned (OpenSpec.ofChange daqOwnSpec)

/-- ITS FALSE NEIGHBOUR: 'it returns false'. Refute it at one input. -/
def daqOwnWrong : ChangeSpec := { name := "daqOwn", fn := fun _ => fun
  | [d] => { results := [.lit (.bool false)], args := [d] }
  | _ => none }
def DaqOwnWrongFalsely : Prop := daqOwnRow.holds Try.pinned (OpenSpec.ofChange daqOwnWrong)

/-- 'calliperlaw11.DaqStops': WHATEVER THE INPUT: true; the input reads as it did. -/
def daqStopsSpec : ChangeSpec := { name := "daqStops", fn := fun _ => fun
  | [d1, d2] => { results := [.lit (.bool true)], args := [d1, d2] }
  | _ => none }
def daqStopsRow : OpenClaim := { program := "ytjjifldgfihjgaa", sum := "97dc8a109720021b7ddeff2cb2f259c05103a86179a746992d6bf8e89bfbd726", func := "calliper/calliperlaw11.DaqStops", spec := "daqStops", unfollowed := true, recurses := true, apart := false }
def DaqStopsSaid : Prop := daqStopsRow.holds Try.pinned (OpenSpec.ofChange daqStopsSpec)

/-- ITS FALSE NEIGHBOUR: 'it returns false'. Refute it at one input. -/
def daqStopsWrong : ChangeSpec := { name := "daqStops", fn := fun _ => fun
  | [d1, d2] => { results := [.lit (.bool false)], args := [d1, d2] }
  | _ => none }
def DaqStopsWrongFalsely : Prop := daqStopsRow.holds Try.pinned (OpenSpec.ofChange daqStopsWrong)

/-- 'calliperlaw11.DaqFrees': WHATEVER THE INPUT: true; the input reads as it did. -/
def daqFreesSpec : ChangeSpec := { name := "daqFrees", fn := fun _ => fun
  | [d1, d2] => { results := [.lit (.bool true)], args := [d1, d2] }
  | _ => none }
def daqFreesRow : OpenClaim := { program := "ytjjifldgfihjgaa", sum := "97dc8a109720021b7ddeff2cb2f259c05103a86179a746992d6bf8e89bfbd726", func := "calliper/calliperlaw11.DaqFrees", spec := "daqFrees", unfollowed := true, recurses := true, apart := false }
def DaqFreesSaid : Prop := daqFreesRow.holds Try.pinned (OpenSpec.ofChange daqFreesSpec)

/-- ITS FALSE NEIGHBOUR: 'it returns false'. Refute it at one input. -/
def daqFreesWrong : ChangeSpec := { name := "daqFrees", fn := fun _ => fun
  | [d1, d2] => { results := [.lit (.bool false)], args := [d1, d2] }
  | _ => none }
def DaqFreesWrongFalsely : Prop := daqFreesRow.holds Try.pinned (OpenSpec.ofChange daqFreesWrong)

/- THE SECOND FORM. 'bulk': how many values and letters a reading holds, each counted each time it is reached (what is shared counts as often as it is met; a slice's spare places count too). A statement '..UptoSaid' is the law's where the arguments, and the package variables that the reading takes, are together of bulk at most 1048576: NARROWER than '..Said'. Prove '..Said' where nothing that the law and all that it calls make is longer than what came in: it says more and counts as full. Else prove '..UptoSaid'. A law counts once. -/
mutual
def uptoBulk {H : Type} : DataW H → Nat
  | .lit (.string bytes) => bytes.length + 1
  | .lit _ => 1
  | .nil => 1
  | .ptr d => uptoBulk d + 1
  | .slice elems spare => uptoBulkAll elems + uptoBulkAll spare + 1
  | .agg parts => uptoBulkAll parts + 1
  | .iface _ d => uptoBulk d + 1
  | .map entries => uptoBulkEntries entries + 1
  | .held _ => 1
def uptoBulkAll {H : Type} : List (DataW H) → Nat
  | [] => 0
  | d :: r => uptoBulk d + uptoBulkAll r
def uptoBulkEntries {H : Type} : List (Lit × DataW H) → Nat
  | [] => 0
  | x :: r => uptoBulkEntry x + uptoBulkEntries r
def uptoBulkEntry {H : Type} : Lit × DataW H → Nat
  | (.string bytes, d) => bytes.length + uptoBulk d + 1
  | (_, d) => uptoBulk d + 1
 end
def uptoSmall : (H : Type) → List (DataW H) → Bool := fun _ ds => decide (uptoBulkAll ds ≤ 1048576)
def OpenSpec.upto (s : _root_.Go.ChangeSpec) : _root_.Go.OpenSpec := { _root_.Go.OpenSpec.ofChange s with cond := some uptoSmall }

/-- 'calliperlaw11.DaqReady', WHERE WHAT IT READS IS OF BULK AT MOST 1048576: true; the input reads as it did. -/
def daqReadyUptoRow : OpenClaim := { program := "ytjjifldgfihjgaa", sum := "97dc8a109720021b7ddeff2cb2f259c05103a86179a746992d6bf8e89bfbd726", func := "calliper/calliperlaw11.DaqReady", spec := "daqReady", unfollowed := true, recurses := true, apart := false, narrowed := true }
def DaqReadyUptoSaid : Prop := daqReadyUptoRow.holds Try.pinned (OpenSpec.upto daqReadySpec)

/-- 'calliperlaw11.DaqStays', WHERE WHAT IT READS IS OF BULK AT MOST 1048576: true; the input reads as it did. -/
def daqStaysUptoRow : OpenClaim := { program := "ytjjifldgfihjgaa", sum := "97dc8a109720021b7ddeff2cb2f259c05103a86179a746992d6bf8e89bfbd726", func := "calliper/calliperlaw11.DaqStays", spec := "daqStays", unfollowed := true, recurses := true, apart := false, narrowed := true }
def DaqStaysUptoSaid : Prop := daqStaysUptoRow.holds Try.pinned (OpenSpec.upto daqStaysSpec)

/-- 'calliperlaw11.DaqLays', WHERE WHAT IT READS IS OF BULK AT MOST 1048576: true; the input reads as it did. -/
def daqLaysUptoRow : OpenClaim := { program := "ytjjifldgfihjgaa", sum := "97dc8a109720021b7ddeff2cb2f259c05103a86179a746992d6bf8e89bfbd726", func := "calliper/calliperlaw11.DaqLays", spec := "daqLays", unfollowed := true, recurses := true, apart := false, narrowed := true }
def DaqLaysUptoSaid : Prop := daqLaysUptoRow.holds Try.pinned (OpenSpec.upto daqLaysSpec)

/-- 'calliperlaw11.DaqOwn', WHERE WHAT IT READS IS OF BULK AT MOST 1048576: true; the input reads as it did. -/
def daqOwnUptoRow : OpenClaim := { program := "ytjjifldgfihjgaa", sum := "97dc8a109720021b7ddeff2cb2f259c05103a86179a746992d6bf8e89bfbd726", func := "calliper/calliperlaw11.DaqOwn", spec := "daqOwn", unfollowed := true, recurses := true, apart := false, narrowed := true }
def DaqOwnUptoSaid : Prop := daqOwnUptoRow.holds Try.pinned (OpenSpec.upto daqOwnSpec)

/-- 'calliperlaw11.DaqStops', WHERE WHAT IT READS IS OF BULK AT MOST 1048576: true; the input reads as it did. -/
def daqStopsUptoRow : OpenClaim := { program := "ytjjifldgfihjgaa", sum := "97dc8a109720021b7ddeff2cb2f259c05103a86179a746992d6bf8e89bfbd726", func := "calliper/calliperlaw11.DaqStops", spec := "daqStops", unfollowed := true, recurses := true, apart := false, narrowed := true }
def DaqStopsUptoSaid : Prop := daqStopsUptoRow.holds Try.pinned (OpenSpec.upto daqStopsSpec)

/-- 'calliperlaw11.DaqFrees', WHERE WHAT IT READS IS OF BULK AT MOST 1048576: true; the input reads as it did. -/
def daqFreesUptoRow : OpenClaim := { program := "ytjjifldgfihjgaa", sum := "97dc8a109720021b7ddeff2cb2f259c05103a86179a746992d6bf8e89bfbd726", func := "calliper/calliperlaw11.DaqFrees", spec := "daqFrees", unfollowed := true, recurses := true, apart := false, narrowed := true }
def DaqFreesUptoSaid : Prop := daqFreesUptoRow.holds Try.pinned (OpenSpec.upto daqFreesSpec)

end Rows
end Go.Proofs.Ytjjifldgfihjgaa
