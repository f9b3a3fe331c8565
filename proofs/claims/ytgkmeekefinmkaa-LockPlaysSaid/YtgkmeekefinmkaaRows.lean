/-
  No cell of these rows narrows 'for every input' (looked for: loops, veiled, ifaces, maps, wideKeys, modest, calm, conditions, laid).
  DERIVED. THE GIVEN ROWS OF THIS SEAT. 5 by the template 'for every input the law returns true; each argument reads behind the call as it read before'; 0 by the template 'total and deterministic' (their statements: YtgkmeekefinmkaaTotals.lean).
  GIVEN WITH THE SEED: the statements are not yours to turn. If you find one false, say at which input.
  Laid BY PROGRAM, IN A SANDBOX (cutbox-rows.mjs): the forced cells as the released guide's own fill.sh prints them over the translation 03e02f0e95e596b6… (all of the seat's roots in one cut). By AI agents, Wed Nov 11 2026. No macro, syntax, notation, axiom, sorry.
-/
import Derived.Test.YtgkmeekefinmkaaChecked
import GoSem.Claim
import GoSem.ClaimJoined
import GoSem.ClaimMapViews
import Derived.JoinedTies
import Derived.KernelRfl
namespace Go.Proofs.Ytgkmeekefinmkaa
/- THE CELL 'sum', in the pinned program and in every row, IS THE sha256 OF THE DUMP (.gsa) THAT YtgkmeekefinmkaaProg.lean LOADS. Nothing in Lean hashes anything: it is a label: what it is worth is what the hold of that sum in a sandbox is worth. -/
noncomputable def Try.pinned : Pinned := { name := "ytgkmeekefinmkaa", sum := "03e02f0e95e596b6c53562ba0b598ded54ca9ed3f610698c681731d889fa23cc", checked := Try.checked }
namespace Rows
def none {H : Type} : Left H := { results := [], args := [] }

/-- 'calliperlaw09.LockParts': WHATEVER THE INPUT: true; the input reads as it did. -/
def lockPartsSpec : ChangeSpec := { name := "lockParts", fn := fun _ => fun
  | [d1, d2, d3] => { results := [.lit (.bool true)], args := [d1, d2, d3] }
  | _ => none }
def lockPartsRow : OpenClaim := { program := "ytgkmeekefinmkaa", sum := "03e02f0e95e596b6c53562ba0b598ded54ca9ed3f610698c681731d889fa23cc", func := "calliper/calliperlaw09.LockParts", spec := "lockParts", apart := false }
def LockPartsSaid : Prop := lockPartsRow.holds Try.pinned (OpenSpec.ofChange lockPartsSpec)

/-- ITS FALSE NEIGHBOUR: 'it returns false'. Refute it at one input. -/
def lockPartsWrong : ChangeSpec := { name := "lockParts", fn := fun _ => fun
  | [d1, d2, d3] => { results := [.lit (.bool false)], args := [d1, d2, d3] }
  | _ => none }
def LockPartsWrongFalsely : Prop := lockPartsRow.holds Try.pinned (OpenSpec.ofChange lockPartsWrong)

/-- 'calliperlaw09.LockFree': WHATEVER THE INPUT: true; the input reads as it did. -/
def lockFreeSpec : ChangeSpec := { name := "lockFree", fn := fun _ => fun
  | [d1, d2, d3, d4] => { results := [.lit (.bool true)], args := [d1, d2, d3, d4] }
  | _ => none }
def lockFreeRow : OpenClaim := { program := "ytgkmeekefinmkaa", sum := "03e02f0e95e596b6c53562ba0b598ded54ca9ed3f610698c681731d889fa23cc", func := "calliper/calliperlaw09.LockFree", spec := "lockFree", apart := false }
def LockFreeSaid : Prop := lockFreeRow.holds Try.pinned (OpenSpec.ofChange lockFreeSpec)

/-- ITS FALSE NEIGHBOUR: 'it returns false'. Refute it at one input. -/
def lockFreeWrong : ChangeSpec := { name := "lockFree", fn := fun _ => fun
  | [d1, d2, d3, d4] => { results := [.lit (.bool false)], args := [d1, d2, d3, d4] }
  | _ => none }
def LockFreeWrongFalsely : Prop := lockFreeRow.holds Try.pinned (OpenSpec.ofChange lockFreeWrong)

/-- 'calliperlaw09.LockPlays': WHATEVER THE INPUT: true; the input reads as it did. -/
def lockPlaysSpec : ChangeSpec := { name := "lockPlays", fn := fun _ => fun
  | [d1, d2] => { results := [.lit (.bool true)], args := [d1, d2] }
  | _ => none }
def lockPlaysRow : OpenClaim := { program := "ytgkmeekefinmkaa", sum := "03e02f0e95e596b6c53562ba0b598ded54ca9ed3f610698c681731d889fa23cc", func := "calliper/calliperlaw09.LockPlays", spec := "lockPlays", apart := false }
def LockPlaysSaid : Prop := lockPlaysRow.holds Try.pinned (OpenSpec.ofChange lockPlaysSpec)

/-- ITS FALSE NEIGHBOUR: 'it returns false'. Refute it at one input. -/
def lockPlaysWrong : ChangeSpec := { name := "lockPlays", fn := fun _ => fun
  | [d1, d2] => { results := [.lit (.bool false)], args := [d1, d2] }
  | _ => none }
def LockPlaysWrongFalsely : Prop := lockPlaysRow.holds Try.pinned (OpenSpec.ofChange lockPlaysWrong)

/-- 'calliperlaw09.LockKeys': WHATEVER THE INPUT: true; the input reads as it did. -/
def lockKeysSpec : ChangeSpec := { name := "lockKeys", fn := fun _ => fun
  | [d1, d2, d3, d4] => { results := [.lit (.bool true)], args := [d1, d2, d3, d4] }
  | _ => none }
def lockKeysRow : OpenClaim := { program := "ytgkmeekefinmkaa", sum := "03e02f0e95e596b6c53562ba0b598ded54ca9ed3f610698c681731d889fa23cc", func := "calliper/calliperlaw09.LockKeys", spec := "lockKeys", apart := false }
def LockKeysSaid : Prop := lockKeysRow.holds Try.pinned (OpenSpec.ofChange lockKeysSpec)

/-- ITS FALSE NEIGHBOUR: 'it returns false'. Refute it at one input. -/
def lockKeysWrong : ChangeSpec := { name := "lockKeys", fn := fun _ => fun
  | [d1, d2, d3, d4] => { results := [.lit (.bool false)], args := [d1, d2, d3, d4] }
  | _ => none }
def LockKeysWrongFalsely : Prop := lockKeysRow.holds Try.pinned (OpenSpec.ofChange lockKeysWrong)

/-- 'calliperlaw09.LockNil': WHATEVER THE INPUT: true; the input reads as it did. -/
def lockNilSpec : ChangeSpec := { name := "lockNil", fn := fun _ => fun
  | [d1, d2, d3, d4] => { results := [.lit (.bool true)], args := [d1, d2, d3, d4] }
  | _ => none }
def lockNilRow : OpenClaim := { program := "ytgkmeekefinmkaa", sum := "03e02f0e95e596b6c53562ba0b598ded54ca9ed3f610698c681731d889fa23cc", func := "calliper/calliperlaw09.LockNil", spec := "lockNil", apart := false }
def LockNilSaid : Prop := lockNilRow.holds Try.pinned (OpenSpec.ofChange lockNilSpec)

/-- ITS FALSE NEIGHBOUR: 'it returns false'. Refute it at one input. -/
def lockNilWrong : ChangeSpec := { name := "lockNil", fn := fun _ => fun
  | [d1, d2, d3, d4] => { results := [.lit (.bool false)], args := [d1, d2, d3, d4] }
  | _ => none }
def LockNilWrongFalsely : Prop := lockNilRow.holds Try.pinned (OpenSpec.ofChange lockNilWrong)

/- THE SECOND FORM. 'bulk': how many values and letters a reading holds, each counted each time it is reached (what is shared counts as often as it is met; a slice's spare places count too). A statement '..UptoSaid' is the law's where the arguments, and the package variables that the reading takes, are together of bulk at most 1048576: NARROWER than '..Said'. Prove '..Said' where nothing that the law and all that it calls make is longer than what came in: it says more and counts as full. Else prove '..UptoSaid'. A law counts once. -/
mutual
def uptoBulk {H : Type} : DataW H → Nat
  | .lit (.string bytes) => bytes.length + 1
  | .lit _ => 1
  | .nil => 1
  | .ptr d => uptoBulk d + 1
  | .slice elems spare => uptoBulkAll elems + uptoBulkAll spare + 1
  | .agg parts => uptoBulkAll parts + 1
  | .iface _ d => uptoBulk d + 1
  | .map entries => uptoBulkEntries entries + 1
  | .held _ => 1
def uptoBulkAll {H : Type} : List (DataW H) → Nat
  | [] => 0
  | d :: r => uptoBulk d + uptoBulkAll r
def uptoBulkEntries {H : Type} : List (Lit × DataW H) → Nat
  | [] => 0
  | x :: r => uptoBulkEntry x + uptoBulkEntries r
def uptoBulkEntry {H : Type} : Lit × DataW H → Nat
  | (.string bytes, d) => bytes.length + uptoBulk d + 1
  | (_, d) => uptoBulk d + 1
 end
def uptoSmall : (H : Type) → List (DataW H) → Bool := fun _ ds => decide (uptoBulkAll ds ≤ 1048576)
def OpenSpec.upto (s : _root_.Go.ChangeSpec) : _root_.Go.OpenSpec := { _root_.Go.OpenSpec.ofChange s with cond := some uptoSmall }

/-- 'calliperlaw09.LockParts', WHERE WHAT IT READS IS OF BULK AT MOST 1048576: true; the input reads as it did. -/
def lockPartsUptoRow : OpenClaim := { program := "ytgkmeekefinmkaa", sum := "03e02f0e95e596b6c53562ba0b598ded54ca9ed3f610698c681731d889fa23cc", func := "calliper/calliperlaw09.LockParts", spec := "lockParts", apart := false, narrowed := true }
def LockPartsUptoSaid : Prop := lockPartsUptoRow.holds Try.pinned (OpenSpec.upto lockPartsSpec)

/-- 'calliperlaw09.LockFree', WHERE WHAT IT READS IS OF BULK AT MOST 1048576: true; the input reads as it did. -/
def lockFreeUptoRow : OpenClaim := { program := "ytgkmeekefinmkaa", sum := "03e02f0e95e596b6c53562ba0b598ded54ca9ed3f610698c681731d889fa23cc", func := "calliper/calliperlaw09.LockFree", spec := "lockFree", apart := false, narrowed := true }
def LockFreeUptoSaid : Prop := lockFreeUptoRow.holds Try.pinned (OpenSpec.upto lockFreeSpec)

/-- 'calliperlaw09.LockPlays', WHERE WHAT IT READS IS OF BULK AT MOST 1048576: true; the input reads as it did. -/
def lockPlaysUptoRow : OpenClaim := { program := "ytgkmeekefinmkaa", sum := "03e02f0e95e596b6c53562ba0b598ded54ca9ed3f610698c681731d889fa23cc", func := "calliper/calliperlaw09.LockPlays", spec := "lockPlays", apart := false, narrowed := true }
def LockPlaysUptoSaid : Prop := lockPlaysUptoRow.holds Try.pinned (OpenSpec.upto lockPlaysSpec)

/-- 'calliperlaw09.LockKeys', WHERE WHAT IT READS IS OF BULK AT MOST 1048576: true; the input reads as it did. -/
def lockKeysUptoRow : OpenClaim := { program := "ytgkmeekefinmkaa", sum := "03e02f0e95e596b6c53562ba0b598ded54ca9ed3f610698c681731d889fa23cc", func := "calliper/calliperlaw09.LockKeys", spec := "lockKeys", apart := false, narrowed := true }
def LockKeysUptoSaid : Prop := lockKeysUptoRow.holds Try.pinned (OpenSpec.upto lockKeysSpec)

/-- 'calliperlaw09.LockNil', WHERE WHAT IT READS IS OF BULK AT MOST 1048576: true; the input reads as it did. -/
def lockNilUptoRow : OpenClaim := { program := "ytgkmeekefinmkaa", sum := "03e02f0e95e596b6c53562ba0b598ded54ca9ed3f610698c681731d889fa23cc", func := "calliper/calliperlaw09.LockNil", spec := "lockNil", apart := false, narrowed := true }
def LockNilUptoSaid : Prop := lockNilUptoRow.holds Try.pinned (OpenSpec.upto lockNilSpec)

end Rows
end Go.Proofs.Ytgkmeekefinmkaa
