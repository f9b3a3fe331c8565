/-
  No cell of these rows narrows 'for every input' (looked for: loops, veiled, ifaces, maps, wideKeys, modest, calm, conditions, laid).
  DERIVED. THE GIVEN ROWS OF THIS SEAT. 6 by the template 'for every input the law returns true; each argument reads behind the call as it read before'; 0 by the template 'total and deterministic' (their statements: YtmcmlglacblkiaaTotals.lean).
  GIVEN WITH THE SEED: the statements are not yours to turn. If you find one false, say at which input.
  Laid BY PROGRAM, IN A SANDBOX (cutbox-rows.mjs): the forced cells as the released guide's own fill.sh prints them over the translation 4dcf8469b54e1ff0… (all of the seat's roots in one cut). By AI agents, Wed Nov 11 2026. No macro, syntax, notation, axiom, sorry.
-/
import Derived.Test.YtmcmlglacblkiaaChecked
import GoSem.Claim
import GoSem.ClaimJoined
import GoSem.ClaimMapViews
import Derived.JoinedTies
import Derived.KernelRfl
namespace Go.Proofs.Ytmcmlglacblkiaa
/- THE CELL 'sum', in the pinned program and in every row, IS THE sha256 OF THE DUMP (.gsa) THAT YtmcmlglacblkiaaProg.lean LOADS. Nothing in Lean hashes anything: it is a label: what it is worth is what the hold of that sum in a sandbox is worth. -/
noncomputable def Try.pinned : Pinned := { name := "ytmcmlglacblkiaa", sum := "4dcf8469b54e1ff05cf41e50f50533e169bf948bfcc9f4ee26cf13ccdf88b689", checked := Try.checked }
namespace Rows
def none {H : Type} : Left H := { results := [], args := [] }

/-- 'calliperlaw18.SymTells': WHATEVER THE INPUT: true; the input reads as it did. -/
def symTellsSpec : ChangeSpec := { name := "symTells", fn := fun _ => fun
  | [d1, d2, d3] => { results := [.lit (.bool true)], args := [d1, d2, d3] }
  | _ => none }
def symTellsRow : OpenClaim := { program := "ytmcmlglacblkiaa", sum := "4dcf8469b54e1ff05cf41e50f50533e169bf948bfcc9f4ee26cf13ccdf88b689", func := "calliper/calliperlaw18.SymTells", spec := "symTells", unfollowed := true, recurses := true, apart := false }
def SymTellsSaid : Prop := symTellsRow.holds Try.pinned (OpenSpec.ofChange symTellsSpec)

/-- ITS FALSE NEIGHBOUR: 'it returns false'. Refute it at one input. -/
def symTellsWrong : ChangeSpec := { name := "symTells", fn := fun _ => fun
  | [d1, d2, d3] => { results := [.lit (.bool false)], args := [d1, d2, d3] }
  | _ => none }
def SymTellsWrongFalsely : Prop := symTellsRow.holds Try.pinned (OpenSpec.ofChange symTellsWrong)

/-- 'calliperlaw18.SymBack': WHATEVER THE INPUT: true; the input reads as it did. -/
def symBackSpec : ChangeSpec := { name := "symBack", fn := fun _ => fun
  | [d1, d2, d3] => { results := [.lit (.bool true)], args := [d1, d2, d3] }
  | _ => none }
def symBackRow : OpenClaim := { program := "ytmcmlglacblkiaa", sum := "4dcf8469b54e1ff05cf41e50f50533e169bf948bfcc9f4ee26cf13ccdf88b689", func := "calliper/calliperlaw18.SymBack", spec := "symBack", unfollowed := true, recurses := true, apart := false }
def SymBackSaid : Prop := symBackRow.holds Try.pinned (OpenSpec.ofChange symBackSpec)

/-- ITS FALSE NEIGHBOUR: 'it returns false'. Refute it at one input. -/
def symBackWrong : ChangeSpec := { name := "symBack", fn := fun _ => fun
  | [d1, d2, d3] => { results := [.lit (.bool false)], args := [d1, d2, d3] }
  | _ => none }
def SymBackWrongFalsely : Prop := symBackRow.holds Try.pinned (OpenSpec.ofChange symBackWrong)

/-- 'calliperlaw18.SymSteps': WHATEVER THE INPUT: true; the input reads as it did. -/
def symStepsSpec : ChangeSpec := { name := "symSteps", fn := fun _ => fun
  | [d] => { results := [.lit (.bool true)], args := [d] }
  | _ => none }
def symStepsRow : OpenClaim := { program := "ytmcmlglacblkiaa", sum := "4dcf8469b54e1ff05cf41e50f50533e169bf948bfcc9f4ee26cf13ccdf88b689", func := "calliper/calliperlaw18.SymSteps", spec := "symSteps", unfollowed := true, recurses := true, apart := false }
def SymStepsSaid : Prop := symStepsRow.holds Try.pinned (OpenSpec.ofChange symStepsSpec)

/-- ITS FALSE NEIGHBOUR: 'it returns false'. Refute it at one input. -/
def symStepsWrong : ChangeSpec := { name := "symSteps", fn := fun _ => fun
  | [d] => { results := [.lit (.bool false)], args := [d] }
  | _ => none }
def SymStepsWrongFalsely : Prop := symStepsRow.holds Try.pinned (OpenSpec.ofChange symStepsWrong)

/-- 'calliperlaw18.SymOrders': WHATEVER THE INPUT: true; the input reads as it did. -/
def symOrdersSpec : ChangeSpec := { name := "symOrders", fn := fun _ => fun
  | [d1, d2, d3] => { results := [.lit (.bool true)], args := [d1, d2, d3] }
  | _ => none }
def symOrdersRow : OpenClaim := { program := "ytmcmlglacblkiaa", sum := "4dcf8469b54e1ff05cf41e50f50533e169bf948bfcc9f4ee26cf13ccdf88b689", func := "calliper/calliperlaw18.SymOrders", spec := "symOrders", unfollowed := true, recurses := true, apart := false }
def SymOrdersSaid : Prop := symOrdersRow.holds Try.pinned (OpenSpec.ofChange symOrdersSpec)

/-- ITS FALSE NEIGHBOUR: 'it returns false'. Refute it at one input. -/
def symOrdersWrong : ChangeSpec := { name := "symOrders", fn := fun _ => fun
  | [d1, d2, d3] => { results := [.lit (.bool false)], args := [d1, d2, d3] }
  | _ => none }
def SymOrdersWrongFalsely : Prop := symOrdersRow.holds Try.pinned (OpenSpec.ofChange symOrdersWrong)

/-- 'calliperlaw18.SymFinds': WHATEVER THE INPUT: true; the input reads as it did. -/
def symFindsSpec : ChangeSpec := { name := "symFinds", fn := fun _ => fun
  | [d1, d2] => { results := [.lit (.bool true)], args := [d1, d2] }
  | _ => none }
def symFindsRow : OpenClaim := { program := "ytmcmlglacblkiaa", sum := "4dcf8469b54e1ff05cf41e50f50533e169bf948bfcc9f4ee26cf13ccdf88b689", func := "calliper/calliperlaw18.SymFinds", spec := "symFinds", unfollowed := true, recurses := true, apart := false }
def SymFindsSaid : Prop := symFindsRow.holds Try.pinned (OpenSpec.ofChange symFindsSpec)

/-- ITS FALSE NEIGHBOUR: 'it returns false'. Refute it at one input. -/
def symFindsWrong : ChangeSpec := { name := "symFinds", fn := fun _ => fun
  | [d1, d2] => { results := [.lit (.bool false)], args := [d1, d2] }
  | _ => none }
def SymFindsWrongFalsely : Prop := symFindsRow.holds Try.pinned (OpenSpec.ofChange symFindsWrong)

/-- 'calliperlaw18.SymOwn': WHATEVER THE INPUT: true; the input reads as it did. -/
def symOwnSpec : ChangeSpec := { name := "symOwn", fn := fun _ => fun
  | [d] => { results := [.lit (.bool true)], args := [d] }
  | _ => none }
def symOwnRow : OpenClaim := { program := "ytmcmlglacblkiaa", sum := "4dcf8469b54e1ff05cf41e50f50533e169bf948bfcc9f4ee26cf13ccdf88b689", func := "calliper/calliperlaw18.SymOwn", spec := "symOwn", unfollowed := true, recurses := true, apart := false }
def SymOwnSaid : Prop := symOwnRow.holds Try.pinned (OpenSpec.ofChange symOwnSpec)

/-- ITS FALSE NEIGHBOUR: 'it returns false'. Refute it at one input. -/
def symOwnWrong : ChangeSpec := { name := "symOwn", fn := fun _ => fun
  | [d] => { results := [.lit (.bool false)], args := [d] }
  | _ => none }
def SymOwnWrongFalsely : Prop := symOwnRow.holds Try.pinned (OpenSpec.ofChange symOwnWrong)

/- THE SECOND FORM. 'bulk': how many values and letters a reading holds, each counted each time it is reached (what is shared counts as often as it is met; a slice's spare places count too). A statement '..UptoSaid' is the law's where the arguments, and the package variables that the reading takes, are together of bulk at most 1048576: NARROWER than '..Said'. Prove '..Said' where nothing that the law and all that it calls make is longer than what came in: it says more and counts as full. Else prove '..UptoSaid'. A law counts once. -/
mutual
def uptoBulk {H : Type} : DataW H → Nat
  | .lit (.string bytes) => bytes.length + 1
  | .lit _ => 1
  | .nil => 1
  | .ptr d => uptoBulk d + 1
  | .slice elems spare => uptoBulkAll elems + uptoBulkAll spare + 1
  | .agg parts => uptoBulkAll parts + 1
  | .iface _ d => uptoBulk d + 1
  | .map entries => uptoBulkEntries entries + 1
  | .held _ => 1
def uptoBulkAll {H : Type} : List (DataW H) → Nat
  | [] => 0
  | d :: r => uptoBulk d + uptoBulkAll r
def uptoBulkEntries {H : Type} : List (Lit × DataW H) → Nat
  | [] => 0
  | x :: r => uptoBulkEntry x + uptoBulkEntries r
def uptoBulkEntry {H : Type} : Lit × DataW H → Nat
  | (.string bytes, d) => bytes.length + uptoBulk d + 1
  | (_, d) => uptoBulk d + 1
 end
def uptoSmall : (H : Type) → List (DataW H) → Bool := fun _ ds => decide (uptoBulkAll ds ≤ 1048576)
def OpenSpec.upto (s : _root_.Go.ChangeSpec) : _root_.Go.OpenSpec := { _root_.Go.OpenSpec.ofChange s with cond := some uptoSmall }

/-- 'calliperlaw18.SymTells', WHERE WHAT IT READS IS OF BULK AT MOST 1048576: true; the input reads as it did. -/
def symTellsUptoRow : OpenClaim := { program := "ytmcmlglacblkiaa", sum := "4dcf8469b54e1ff05cf41e50f50533e169bf948bfcc9f4ee26cf13ccdf88b689", func := "calliper/calliperlaw18.SymTells", spec := "symTells", unfollowed := true, recurses := true, apart := false, narrowed := true }
def SymTellsUptoSaid : Prop := symTellsUptoRow.holds Try.pinned (OpenSpec.upto symTellsSpec)

/-- 'calliperlaw18.SymBack', WHERE WHAT IT READS IS OF BULK AT MOST 1048576: true; the input reads as it did. -/
def symBackUptoRow : OpenClaim := { program := "ytmcmlglacblkiaa", sum := "4dcf8469b54e1ff05cf41e50f50533e169bf948bfcc9f4ee26cf13ccdf88b689", func := "calliper/calliperlaw18.SymBack", spec := "symBack", unfollowed := true, recurses := true, apart := false, narrowed := true }
def SymBackUptoSaid : Prop := symBackUptoRow.holds Try.pinned (OpenSpec.upto symBackSpec)

/-- 'calliperlaw18.SymSteps', WHERE WHAT IT READS IS OF BULK AT MOST 1048576: true; the input reads as it did. -/
def symStepsUptoRow : OpenClaim := { program := "ytmcmlglacblkiaa", sum := "4dcf8469b54e1ff05cf41e50f50533e169bf948bfcc9f4ee26cf13ccdf88b689", func := "calliper/calliperlaw18.SymSteps", spec := "symSteps", unfollowed := true, recurses := true, apart := false, narrowed := true }
def SymStepsUptoSaid : Prop := symStepsUptoRow.holds Try.pinned (OpenSpec.upto symStepsSpec)

/-- 'calliperlaw18.SymOrders', WHERE WHAT IT READS IS OF BULK AT MOST 1048576: true; the input reads as it did. -/
def symOrdersUptoRow : OpenClaim := { program := "ytmcmlglacblkiaa", sum := "4dcf8469b54e1ff05cf41e50f50533e169bf948bfcc9f4ee26cf13ccdf88b689", func := "calliper/calliperlaw18.SymOrders", spec := "symOrders", unfollowed := true, recurses := true, apart := false, narrowed := true }
def SymOrdersUptoSaid : Prop := symOrdersUptoRow.holds Try.pinned (OpenSpec.upto symOrdersSpec)

/-- 'calliperlaw18.SymFinds', WHERE WHAT IT READS IS OF BULK AT MOST 1048576: true; the input reads as it did. -/
def symFindsUptoRow : OpenClaim := { program := "ytmcmlglacblkiaa", sum := "4dcf8469b54e1ff05cf41e50f50533e169bf948bfcc9f4ee26cf13ccdf88b689", func := "calliper/calliperlaw18.SymFinds", spec := "symFinds", unfollowed := true, recurses := true, apart := false, narrowed := true }
def SymFindsUptoSaid : Prop := symFindsUptoRow.holds Try.pinned (OpenSpec.upto symFindsSpec)

/-- 'calliperlaw18.SymOwn', WHERE WHAT IT READS IS OF BULK AT MOST 1048576: true; the input reads as it did. -/
def symOwnUptoRow : OpenClaim := { program := "ytmcmlglacblkiaa", sum := "4dcf8469b54e1ff05cf41e50f50533e169bf948bfcc9f4ee26cf13ccdf88b689", func := "calliper/calliperlaw18.SymOwn", spec := "symOwn", unfollowed := true, recurses := true, apart := false, narrowed := true }
def SymOwnUptoSaid : Prop := symOwnUptoRow.holds Try.pinned (OpenSpec.upto symOwnSpec)

end Rows
end Go.Proofs.Ytmcmlglacblkiaa
