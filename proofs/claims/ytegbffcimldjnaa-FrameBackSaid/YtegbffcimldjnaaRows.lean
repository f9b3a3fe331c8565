/-
  No cell of these rows narrows 'for every input' (looked for: loops, veiled, ifaces, maps, wideKeys, modest, calm, conditions, laid).
  DERIVED. THE GIVEN ROWS OF THIS SEAT. 7 by the template 'for every input the law returns true; each argument reads behind the call as it read before'; 0 by the template 'total and deterministic' (their statements: YtegbffcimldjnaaTotals.lean).
  GIVEN WITH THE SEED: the statements are not yours to turn. If you find one false, say at which input.
  Laid BY PROGRAM, IN A SANDBOX (cutbox-rows.mjs): the forced cells as the released guide's own fill.sh prints them over the translation ba9e997ea401ae7e… (all of the seat's roots in one cut). By AI agents, Wed Nov 11 2026. No macro, syntax, notation, axiom, sorry.
-/
import Derived.Test.YtegbffcimldjnaaChecked
import GoSem.Claim
import GoSem.ClaimJoined
import GoSem.ClaimMapViews
import Derived.JoinedTies
import Derived.KernelRfl
namespace Go.Proofs.Ytegbffcimldjnaa
/- THE CELL 'sum', in the pinned program and in every row, IS THE sha256 OF THE DUMP (.gsa) THAT YtegbffcimldjnaaProg.lean LOADS. Nothing in Lean hashes anything: it is a label: what it is worth is what the hold of that sum in a sandbox is worth. -/
noncomputable def Try.pinned : Pinned := { name := "ytegbffcimldjnaa", sum := "ba9e997ea401ae7e763edd4138be8c8ef43696020b9a02f07f735e8d831af0e6", checked := Try.checked }
namespace Rows
def none {H : Type} : Left H := { results := [], args := [] }

/-- 'calliperlaw01.FrameMakes': WHATEVER THE INPUT: true; the input reads as it did. -/
def frameMakesSpec : ChangeSpec := { name := "frameMakes", fn := fun _ => fun
  | [d1, d2, d3] => { results := [.lit (.bool true)], args := [d1, d2, d3] }
  | _ => none }
def frameMakesRow : OpenClaim := { program := "ytegbffcimldjnaa", sum := "ba9e997ea401ae7e763edd4138be8c8ef43696020b9a02f07f735e8d831af0e6", func := "calliper/calliperlaw01.FrameMakes", spec := "frameMakes", apart := false }
def FrameMakesSaid : Prop := frameMakesRow.holds Try.pinned (OpenSpec.ofChange frameMakesSpec)

/-- ITS FALSE NEIGHBOUR: 'it returns false'. Refute it at one input. -/
def frameMakesWrong : ChangeSpec := { name := "frameMakes", fn := fun _ => fun
  | [d1, d2, d3] => { results := [.lit (.bool false)], args := [d1, d2, d3] }
  | _ => none }
def FrameMakesWrongFalsely : Prop := frameMakesRow.holds Try.pinned (OpenSpec.ofChange frameMakesWrong)

/-- 'calliperlaw01.FrameRanks': WHATEVER THE INPUT: true; the input reads as it did. -/
def frameRanksSpec : ChangeSpec := { name := "frameRanks", fn := fun _ => fun
  | [d1, d2, d3, d4] => { results := [.lit (.bool true)], args := [d1, d2, d3, d4] }
  | _ => none }
def frameRanksRow : OpenClaim := { program := "ytegbffcimldjnaa", sum := "ba9e997ea401ae7e763edd4138be8c8ef43696020b9a02f07f735e8d831af0e6", func := "calliper/calliperlaw01.FrameRanks", spec := "frameRanks", apart := false }
def FrameRanksSaid : Prop := frameRanksRow.holds Try.pinned (OpenSpec.ofChange frameRanksSpec)

/-- ITS FALSE NEIGHBOUR: 'it returns false'. Refute it at one input. -/
def frameRanksWrong : ChangeSpec := { name := "frameRanks", fn := fun _ => fun
  | [d1, d2, d3, d4] => { results := [.lit (.bool false)], args := [d1, d2, d3, d4] }
  | _ => none }
def FrameRanksWrongFalsely : Prop := frameRanksRow.holds Try.pinned (OpenSpec.ofChange frameRanksWrong)

/-- 'calliperlaw01.FrameOrder': WHATEVER THE INPUT: true; the input reads as it did. -/
def frameOrderSpec : ChangeSpec := { name := "frameOrder", fn := fun _ => fun
  | [d1, d2, d3, d4] => { results := [.lit (.bool true)], args := [d1, d2, d3, d4] }
  | _ => none }
def frameOrderRow : OpenClaim := { program := "ytegbffcimldjnaa", sum := "ba9e997ea401ae7e763edd4138be8c8ef43696020b9a02f07f735e8d831af0e6", func := "calliper/calliperlaw01.FrameOrder", spec := "frameOrder", unfollowed := true, recurses := true, apart := false }
def FrameOrderSaid : Prop := frameOrderRow.holds Try.pinned (OpenSpec.ofChange frameOrderSpec)

/-- ITS FALSE NEIGHBOUR: 'it returns false'. Refute it at one input. -/
def frameOrderWrong : ChangeSpec := { name := "frameOrder", fn := fun _ => fun
  | [d1, d2, d3, d4] => { results := [.lit (.bool false)], args := [d1, d2, d3, d4] }
  | _ => none }
def FrameOrderWrongFalsely : Prop := frameOrderRow.holds Try.pinned (OpenSpec.ofChange frameOrderWrong)

/-- 'calliperlaw01.FrameBack': WHATEVER THE INPUT: true; the input reads as it did. -/
def frameBackSpec : ChangeSpec := { name := "frameBack", fn := fun _ => fun
  | [d1, d2, d3, d4] => { results := [.lit (.bool true)], args := [d1, d2, d3, d4] }
  | _ => none }
def frameBackRow : OpenClaim := { program := "ytegbffcimldjnaa", sum := "ba9e997ea401ae7e763edd4138be8c8ef43696020b9a02f07f735e8d831af0e6", func := "calliper/calliperlaw01.FrameBack", spec := "frameBack", apart := false }
def FrameBackSaid : Prop := frameBackRow.holds Try.pinned (OpenSpec.ofChange frameBackSpec)

/-- ITS FALSE NEIGHBOUR: 'it returns false'. Refute it at one input. -/
def frameBackWrong : ChangeSpec := { name := "frameBack", fn := fun _ => fun
  | [d1, d2, d3, d4] => { results := [.lit (.bool false)], args := [d1, d2, d3, d4] }
  | _ => none }
def FrameBackWrongFalsely : Prop := frameBackRow.holds Try.pinned (OpenSpec.ofChange frameBackWrong)

/-- 'calliperlaw01.FrameCuts': WHATEVER THE INPUT: true; the input reads as it did. -/
def frameCutsSpec : ChangeSpec := { name := "frameCuts", fn := fun _ => fun
  | [d1, d2, d3] => { results := [.lit (.bool true)], args := [d1, d2, d3] }
  | _ => none }
def frameCutsRow : OpenClaim := { program := "ytegbffcimldjnaa", sum := "ba9e997ea401ae7e763edd4138be8c8ef43696020b9a02f07f735e8d831af0e6", func := "calliper/calliperlaw01.FrameCuts", spec := "frameCuts", apart := false }
def FrameCutsSaid : Prop := frameCutsRow.holds Try.pinned (OpenSpec.ofChange frameCutsSpec)

/-- ITS FALSE NEIGHBOUR: 'it returns false'. Refute it at one input. -/
def frameCutsWrong : ChangeSpec := { name := "frameCuts", fn := fun _ => fun
  | [d1, d2, d3] => { results := [.lit (.bool false)], args := [d1, d2, d3] }
  | _ => none }
def FrameCutsWrongFalsely : Prop := frameCutsRow.holds Try.pinned (OpenSpec.ofChange frameCutsWrong)

/-- 'calliperlaw01.FrameReads': WHATEVER THE INPUT: true; the input reads as it did. -/
def frameReadsSpec : ChangeSpec := { name := "frameReads", fn := fun _ => fun
  | [d1, d2] => { results := [.lit (.bool true)], args := [d1, d2] }
  | _ => none }
def frameReadsRow : OpenClaim := { program := "ytegbffcimldjnaa", sum := "ba9e997ea401ae7e763edd4138be8c8ef43696020b9a02f07f735e8d831af0e6", func := "calliper/calliperlaw01.FrameReads", spec := "frameReads", apart := false }
def FrameReadsSaid : Prop := frameReadsRow.holds Try.pinned (OpenSpec.ofChange frameReadsSpec)

/-- ITS FALSE NEIGHBOUR: 'it returns false'. Refute it at one input. -/
def frameReadsWrong : ChangeSpec := { name := "frameReads", fn := fun _ => fun
  | [d1, d2] => { results := [.lit (.bool false)], args := [d1, d2] }
  | _ => none }
def FrameReadsWrongFalsely : Prop := frameReadsRow.holds Try.pinned (OpenSpec.ofChange frameReadsWrong)

/-- 'calliperlaw01.FramePads': WHATEVER THE INPUT: true; the input reads as it did. -/
def framePadsSpec : ChangeSpec := { name := "framePads", fn := fun _ => fun
  | [d1, d2, d3] => { results := [.lit (.bool true)], args := [d1, d2, d3] }
  | _ => none }
def framePadsRow : OpenClaim := { program := "ytegbffcimldjnaa", sum := "ba9e997ea401ae7e763edd4138be8c8ef43696020b9a02f07f735e8d831af0e6", func := "calliper/calliperlaw01.FramePads", spec := "framePads", apart := false }
def FramePadsSaid : Prop := framePadsRow.holds Try.pinned (OpenSpec.ofChange framePadsSpec)

/-- ITS FALSE NEIGHBOUR: 'it returns false'. Refute it at one input. -/
def framePadsWrong : ChangeSpec := { name := "framePads", fn := fun _ => fun
  | [d1, d2, d3] => { results := [.lit (.bool false)], args := [d1, d2, d3] }
  | _ => none }
def FramePadsWrongFalsely : Prop := framePadsRow.holds Try.pinned (OpenSpec.ofChange framePadsWrong)

/- THE SECOND FORM. 'bulk': how many values and letters a reading holds, each counted each time it is reached (what is shared counts as often as it is met; a slice's spare places count too). A statement '..UptoSaid' is the law's where the arguments, and the package variables that the reading takes, are together of bulk at most 1048576: NARROWER than '..Said'. Prove '..Said' where nothing that the law and all that it calls make is longer than what came in: it says more and counts as full. Else prove '..UptoSaid'. A law counts once. -/
mutual
def uptoBulk {H : Type} : DataW H → Nat
  | .lit (.string bytes) => bytes.length + 1
  | .lit _ => 1
  | .nil => 1
  | .ptr d => uptoBulk d + 1
  | .slice elems spare => uptoBulkAll elems + uptoBulkAll spare + 1
  | .agg parts => uptoBulkAll parts + 1
  | .iface _ d => uptoBulk d + 1
  | .map entries => uptoBulkEntries entries + 1
  | .held _ => 1
def uptoBulkAll {H : Type} : List (DataW H) → Nat
  | [] => 0
  | d :: r => uptoBulk d + uptoBulkAll r
def uptoBulkEntries {H : Type} : List (Lit × DataW H) → Nat
  | [] => 0
  | x :: r => uptoBulkEntry x + uptoBulkEntries r
def uptoBulkEntry {H : Type} : Lit × DataW H → Nat
  | (.string bytes, d) => bytes.length + uptoBulk d + 1
  | (_, d) => uptoBulk d + 1
 end
def uptoSmall : (H : Type) → List (DataW H) → Bool := fun _ ds => decide (uptoBulkAll ds ≤ 1048576)
def OpenSpec.upto (s : _root_.Go.ChangeSpec) : _root_.Go.OpenSpec := { _root_.Go.OpenSpec.ofChange s with cond := some uptoSmall }

/-- 'calliperlaw01.FrameMakes', WHERE WHAT IT READS IS OF BULK AT MOST 1048576: true; the input reads as it did. -/
def frameMakesUptoRow : OpenClaim := { program := "ytegbffcimldjnaa", sum := "ba9e997ea401ae7e763edd4138be8c8ef43696020b9a02f07f735e8d831af0e6", func := "calliper/calliperlaw01.FrameMakes", spec := "frameMakes", apart := false, narrowed := true }
def FrameMakesUptoSaid : Prop := frameMakesUptoRow.holds Try.pinned (OpenSpec.upto frameMakesSpec)

/-- 'calliperlaw01.FrameRanks', WHERE WHAT IT READS IS OF BULK AT MOST 1048576: true; the input reads as it did. -/
def frameRanksUptoRow : OpenClaim := { program := "ytegbffcimldjnaa", sum := "ba9e997ea401ae7e763edd4138be8c8ef43696020b9a02f07f735e8d831af0e6", func := "calliper/calliperlaw01.FrameRanks", spec := "frameRanks", apart := false, narrowed := true }
def FrameRanksUptoSaid : Prop := frameRanksUptoRow.holds Try.pinned (OpenSpec.upto frameRanksSpec)

/-- 'calliperlaw01.FrameOrder', WHERE WHAT IT READS IS OF BULK AT MOST 1048576: true; the input reads as it did. -/
def frameOrderUptoRow : OpenClaim := { program := "ytegbffcimldjnaa", sum := "ba9e997ea401ae7e763edd4138be8c8ef43696020b9a02f07f735e8d831af0e6", func := "calliper/calliperlaw01.FrameOrder", spec := "frameOrder", unfollowed := true, recurses := true, apart := false, narrowed := true }
def FrameOrderUptoSaid : Prop := frameOrderUptoRow.holds Try.pinned (OpenSpec.upto frameOrderSpec)

/-- 'calliperlaw01.FrameBack', WHERE WHAT IT READS IS OF BULK AT MOST 1048576: true; the input reads as it did. -/
def frameBackUptoRow : OpenClaim := { program := "ytegbffcimldjnaa", sum := "ba9e997ea401ae7e763edd4138be8c8ef43696020b9a02f07f735e8d831af0e6", func := "calliper/calliperlaw01.FrameBack", spec := "frameBack", apart := false, narrowed := true }
def FrameBackUptoSaid : Prop := frameBackUptoRow.holds Try.pinned (OpenSpec.upto frameBackSpec)

/-- 'calliperlaw01.FrameCuts', WHERE WHAT IT READS IS OF BULK AT MOST 1048576: true; the input reads as it did. -/
def frameCutsUptoRow : OpenClaim := { program := "ytegbffcimldjnaa", sum := "ba9e997ea401ae7e763edd4138be8c8ef43696020b9a02f07f735e8d831af0e6", func := "calliper/calliperlaw01.FrameCuts", spec := "frameCuts", apart := false, narrowed := true }
def FrameCutsUptoSaid : Prop := frameCutsUptoRow.holds Try.pinned (OpenSpec.upto frameCutsSpec)

/-- 'calliperlaw01.FrameReads', WHERE WHAT IT READS IS OF BULK AT MOST 1048576: true; the input reads as it did. -/
def frameReadsUptoRow : OpenClaim := { program := "ytegbffcimldjnaa", sum := "ba9e997ea401ae7e763edd4138be8c8ef43696020b9a02f07f735e8d831af0e6", func := "calliper/calliperlaw01.FrameReads", spec := "frameReads", apart := false, narrowed := true }
def FrameReadsUptoSaid : Prop := frameReadsUptoRow.holds Try.pinned (OpenSpec.upto frameReadsSpec)

/-- 'calliperlaw01.FramePads', WHERE WHAT IT READS IS OF BULK AT MOST 1048576: true; the input reads as it did. -/
def framePadsUptoRow : OpenClaim := { program := "ytegbffcimldjnaa", sum := "ba9e997ea401ae7e763edd4138be8c8ef43696020b9a02f07f735e8d831af0e6", func := "calliper/calliperlaw01.FramePads", spec := "framePads", apart := false, narrowed := true }
def FramePadsUptoSaid : Prop := framePadsUptoRow.holds Try.pinned (OpenSpec.upto framePadsSpec)

end Rows
end Go.Proofs.Ytegbffcimldjnaa
