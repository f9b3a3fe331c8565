/-
  No cell of these rows narrows 'for every input' (looked for: loops, veiled, ifaces, maps, wideKeys, modest, calm, conditions, laid).
  DERIVED. THE GIVEN ROWS OF THIS SEAT. 12 by the template 'for every input the law returns true; each argument reads behind the call as it read before'; 0 by the template 'total and deterministic' (their statements: YtpfcmepiiphbiaaTotals.lean).
  GIVEN WITH THE SEED: the statements are not yours to turn. If you find one false, say at which input.
  Laid BY PROGRAM, IN A SANDBOX (cutbox-rows.mjs): the forced cells as the released guide's own fill.sh prints them over the translation 006a59bdc6d61941… (all of the seat's roots in one cut). By AI agents, Wed Nov 11 2026. No macro, syntax, notation, axiom, sorry.
-/
import Derived.Test.YtpfcmepiiphbiaaChecked
import GoSem.Claim
import GoSem.ClaimJoined
import GoSem.ClaimMapViews
import Derived.JoinedTies
import Derived.KernelRfl
namespace Go.Proofs.Ytpfcmepiiphbiaa
/- THE CELL 'sum', in the pinned program and in every row, IS THE sha256 OF THE DUMP (.gsa) THAT YtpfcmepiiphbiaaProg.lean LOADS. Nothing in Lean hashes anything: it is a label: what it is worth is what the hold of that sum in a sandbox is worth. -/
noncomputable def Try.pinned : Pinned := { name := "ytpfcmepiiphbiaa", sum := "006a59bdc6d619415d9de4f7a653919a67e0ce82e6265a02fc81b12cd5ebe62e", checked := Try.checked }
namespace Rows
def none {H : Type} : Left H := { results := [], args := [] }

/-- 'calliperlaw04.NumOrder': WHATEVER THE INPUT: true; the input reads as it did. -/
def numOrderSpec : ChangeSpec := { name := "numOrder", fn := fun _ => fun
  | [d1, d2, d3] => { results := [.lit (.bool true)], args := [d1, d2, d3] }
  | _ => none }
def numOrderRow : OpenClaim := { program := "ytpfcmepiiphbiaa", sum := "006a59bdc6d619415d9de4f7a653919a67e0ce82e6265a02fc81b12cd5ebe62e", func := "calliper/calliperlaw04.NumOrder", spec := "numOrder", apart := false }
def NumOrderSaid : Prop := numOrderRow.holds Try.pinned (OpenSpec.ofChange numOrderSpec)

/-- ITS FALSE NEIGHBOUR: 'it returns false'. Refute it at one input. -/
def numOrderWrong : ChangeSpec := { name := "numOrder", fn := fun _ => fun
  | [d1, d2, d3] => { results := [.lit (.bool false)], args := [d1, d2, d3] }
  | _ => none }
def NumOrderWrongFalsely : Prop := numOrderRow.holds Try.pinned (OpenSpec.ofChange numOrderWrong)

/-- 'calliperlaw04.NumSigns': WHATEVER THE INPUT: true; the input reads as it did. -/
def numSignsSpec : ChangeSpec := { name := "numSigns", fn := fun _ => fun
  | [d1, d2, d3, d4] => { results := [.lit (.bool true)], args := [d1, d2, d3, d4] }
  | _ => none }
def numSignsRow : OpenClaim := { program := "ytpfcmepiiphbiaa", sum := "006a59bdc6d619415d9de4f7a653919a67e0ce82e6265a02fc81b12cd5ebe62e", func := "calliper/calliperlaw04.NumSigns", spec := "numSigns", apart := false }
def NumSignsSaid : Prop := numSignsRow.holds Try.pinned (OpenSpec.ofChange numSignsSpec)

/-- ITS FALSE NEIGHBOUR: 'it returns false'. Refute it at one input. -/
def numSignsWrong : ChangeSpec := { name := "numSigns", fn := fun _ => fun
  | [d1, d2, d3, d4] => { results := [.lit (.bool false)], args := [d1, d2, d3, d4] }
  | _ => none }
def NumSignsWrongFalsely : Prop := numSignsRow.holds Try.pinned (OpenSpec.ofChange numSignsWrong)

/-- 'calliperlaw04.NumPuts': WHATEVER THE INPUT: true; the input reads as it did. -/
def numPutsSpec : ChangeSpec := { name := "numPuts", fn := fun _ => fun
  | [d1, d2, d3, d4] => { results := [.lit (.bool true)], args := [d1, d2, d3, d4] }
  | _ => none }
def numPutsRow : OpenClaim := { program := "ytpfcmepiiphbiaa", sum := "006a59bdc6d619415d9de4f7a653919a67e0ce82e6265a02fc81b12cd5ebe62e", func := "calliper/calliperlaw04.NumPuts", spec := "numPuts", apart := false }
def NumPutsSaid : Prop := numPutsRow.holds Try.pinned (OpenSpec.ofChange numPutsSpec)

/-- ITS FALSE NEIGHBOUR: 'it returns false'. Refute it at one input. -/
def numPutsWrong : ChangeSpec := { name := "numPuts", fn := fun _ => fun
  | [d1, d2, d3, d4] => { results := [.lit (.bool false)], args := [d1, d2, d3, d4] }
  | _ => none }
def NumPutsWrongFalsely : Prop := numPutsRow.holds Try.pinned (OpenSpec.ofChange numPutsWrong)

/-- 'calliperlaw04.NumBack': WHATEVER THE INPUT: true; the input reads as it did. -/
def numBackSpec : ChangeSpec := { name := "numBack", fn := fun _ => fun
  | [d1, d2, d3, d4, d5] => { results := [.lit (.bool true)], args := [d1, d2, d3, d4, d5] }
  | _ => none }
def numBackRow : OpenClaim := { program := "ytpfcmepiiphbiaa", sum := "006a59bdc6d619415d9de4f7a653919a67e0ce82e6265a02fc81b12cd5ebe62e", func := "calliper/calliperlaw04.NumBack", spec := "numBack", apart := false }
def NumBackSaid : Prop := numBackRow.holds Try.pinned (OpenSpec.ofChange numBackSpec)

/-- ITS FALSE NEIGHBOUR: 'it returns false'. Refute it at one input. -/
def numBackWrong : ChangeSpec := { name := "numBack", fn := fun _ => fun
  | [d1, d2, d3, d4, d5] => { results := [.lit (.bool false)], args := [d1, d2, d3, d4, d5] }
  | _ => none }
def NumBackWrongFalsely : Prop := numBackRow.holds Try.pinned (OpenSpec.ofChange numBackWrong)

/-- 'calliperlaw04.NumCuts': WHATEVER THE INPUT: true; the input reads as it did. -/
def numCutsSpec : ChangeSpec := { name := "numCuts", fn := fun _ => fun
  | [d1, d2, d3] => { results := [.lit (.bool true)], args := [d1, d2, d3] }
  | _ => none }
def numCutsRow : OpenClaim := { program := "ytpfcmepiiphbiaa", sum := "006a59bdc6d619415d9de4f7a653919a67e0ce82e6265a02fc81b12cd5ebe62e", func := "calliper/calliperlaw04.NumCuts", spec := "numCuts", apart := false }
def NumCutsSaid : Prop := numCutsRow.holds Try.pinned (OpenSpec.ofChange numCutsSpec)

/-- ITS FALSE NEIGHBOUR: 'it returns false'. Refute it at one input. -/
def numCutsWrong : ChangeSpec := { name := "numCuts", fn := fun _ => fun
  | [d1, d2, d3] => { results := [.lit (.bool false)], args := [d1, d2, d3] }
  | _ => none }
def NumCutsWrongFalsely : Prop := numCutsRow.holds Try.pinned (OpenSpec.ofChange numCutsWrong)

/-- 'calliperlaw04.NumFits': WHATEVER THE INPUT: true; the input reads as it did. -/
def numFitsSpec : ChangeSpec := { name := "numFits", fn := fun _ => fun
  | [d1, d2] => { results := [.lit (.bool true)], args := [d1, d2] }
  | _ => none }
def numFitsRow : OpenClaim := { program := "ytpfcmepiiphbiaa", sum := "006a59bdc6d619415d9de4f7a653919a67e0ce82e6265a02fc81b12cd5ebe62e", func := "calliper/calliperlaw04.NumFits", spec := "numFits", apart := false }
def NumFitsSaid : Prop := numFitsRow.holds Try.pinned (OpenSpec.ofChange numFitsSpec)

/-- ITS FALSE NEIGHBOUR: 'it returns false'. Refute it at one input. -/
def numFitsWrong : ChangeSpec := { name := "numFits", fn := fun _ => fun
  | [d1, d2] => { results := [.lit (.bool false)], args := [d1, d2] }
  | _ => none }
def NumFitsWrongFalsely : Prop := numFitsRow.holds Try.pinned (OpenSpec.ofChange numFitsWrong)

/-- 'calliperlaw05.SumOrder': WHATEVER THE INPUT: true; the input reads as it did. -/
def sumOrderSpec : ChangeSpec := { name := "sumOrder", fn := fun _ => fun
  | [d1, d2, d3, d4] => { results := [.lit (.bool true)], args := [d1, d2, d3, d4] }
  | _ => none }
def sumOrderRow : OpenClaim := { program := "ytpfcmepiiphbiaa", sum := "006a59bdc6d619415d9de4f7a653919a67e0ce82e6265a02fc81b12cd5ebe62e", func := "calliper/calliperlaw05.SumOrder", spec := "sumOrder", unfollowed := true, recurses := true, apart := false }
def SumOrderSaid : Prop := sumOrderRow.holds Try.pinned (OpenSpec.ofChange sumOrderSpec)

/-- ITS FALSE NEIGHBOUR: 'it returns false'. Refute it at one input. -/
def sumOrderWrong : ChangeSpec := { name := "sumOrder", fn := fun _ => fun
  | [d1, d2, d3, d4] => { results := [.lit (.bool false)], args := [d1, d2, d3, d4] }
  | _ => none }
def SumOrderWrongFalsely : Prop := sumOrderRow.holds Try.pinned (OpenSpec.ofChange sumOrderWrong)

/-- 'calliperlaw05.SumBits': WHATEVER THE INPUT: true; the input reads as it did. -/
def sumBitsSpec : ChangeSpec := { name := "sumBits", fn := fun _ => fun
  | [d1, d2, d3, d4] => { results := [.lit (.bool true)], args := [d1, d2, d3, d4] }
  | _ => none }
def sumBitsRow : OpenClaim := { program := "ytpfcmepiiphbiaa", sum := "006a59bdc6d619415d9de4f7a653919a67e0ce82e6265a02fc81b12cd5ebe62e", func := "calliper/calliperlaw05.SumBits", spec := "sumBits", unfollowed := true, recurses := true, apart := false }
def SumBitsSaid : Prop := sumBitsRow.holds Try.pinned (OpenSpec.ofChange sumBitsSpec)

/-- ITS FALSE NEIGHBOUR: 'it returns false'. Refute it at one input. -/
def sumBitsWrong : ChangeSpec := { name := "sumBits", fn := fun _ => fun
  | [d1, d2, d3, d4] => { results := [.lit (.bool false)], args := [d1, d2, d3, d4] }
  | _ => none }
def SumBitsWrongFalsely : Prop := sumBitsRow.holds Try.pinned (OpenSpec.ofChange sumBitsWrong)

/-- 'calliperlaw05.SumWords': WHATEVER THE INPUT: true; the input reads as it did. -/
def sumWordsSpec : ChangeSpec := { name := "sumWords", fn := fun _ => fun
  | [d] => { results := [.lit (.bool true)], args := [d] }
  | _ => none }
def sumWordsRow : OpenClaim := { program := "ytpfcmepiiphbiaa", sum := "006a59bdc6d619415d9de4f7a653919a67e0ce82e6265a02fc81b12cd5ebe62e", func := "calliper/calliperlaw05.SumWords", spec := "sumWords", unfollowed := true, recurses := true, apart := false }
def SumWordsSaid : Prop := sumWordsRow.holds Try.pinned (OpenSpec.ofChange sumWordsSpec)

/-- ITS FALSE NEIGHBOUR: 'it returns false'. Refute it at one input. -/
def sumWordsWrong : ChangeSpec := { name := "sumWords", fn := fun _ => fun
  | [d] => { results := [.lit (.bool false)], args := [d] }
  | _ => none }
def SumWordsWrongFalsely : Prop := sumWordsRow.holds Try.pinned (OpenSpec.ofChange sumWordsWrong)

/-- 'calliperlaw05.SumZeros': WHATEVER THE INPUT: true; the input reads as it did. -/
def sumZerosSpec : ChangeSpec := { name := "sumZeros", fn := fun _ => fun
  | [d1, d2, d3] => { results := [.lit (.bool true)], args := [d1, d2, d3] }
  | _ => none }
def sumZerosRow : OpenClaim := { program := "ytpfcmepiiphbiaa", sum := "006a59bdc6d619415d9de4f7a653919a67e0ce82e6265a02fc81b12cd5ebe62e", func := "calliper/calliperlaw05.SumZeros", spec := "sumZeros", unfollowed := true, recurses := true, apart := false }
def SumZerosSaid : Prop := sumZerosRow.holds Try.pinned (OpenSpec.ofChange sumZerosSpec)

/-- ITS FALSE NEIGHBOUR: 'it returns false'. Refute it at one input. -/
def sumZerosWrong : ChangeSpec := { name := "sumZeros", fn := fun _ => fun
  | [d1, d2, d3] => { results := [.lit (.bool false)], args := [d1, d2, d3] }
  | _ => none }
def SumZerosWrongFalsely : Prop := sumZerosRow.holds Try.pinned (OpenSpec.ofChange sumZerosWrong)

/-- 'calliperlaw05.SumParts': WHATEVER THE INPUT: true; the input reads as it did. -/
def sumPartsSpec : ChangeSpec := { name := "sumParts", fn := fun _ => fun
  | [d1, d2] => { results := [.lit (.bool true)], args := [d1, d2] }
  | _ => none }
def sumPartsRow : OpenClaim := { program := "ytpfcmepiiphbiaa", sum := "006a59bdc6d619415d9de4f7a653919a67e0ce82e6265a02fc81b12cd5ebe62e", func := "calliper/calliperlaw05.SumParts", spec := "sumParts", unfollowed := true, recurses := true, apart := false }
def SumPartsSaid : Prop := sumPartsRow.holds Try.pinned (OpenSpec.ofChange sumPartsSpec)

/-- ITS FALSE NEIGHBOUR: 'it returns false'. Refute it at one input. -/
def sumPartsWrong : ChangeSpec := { name := "sumParts", fn := fun _ => fun
  | [d1, d2] => { results := [.lit (.bool false)], args := [d1, d2] }
  | _ => none }
def SumPartsWrongFalsely : Prop := sumPartsRow.holds Try.pinned (OpenSpec.ofChange sumPartsWrong)

/-- 'calliperlaw05.SumTells': WHATEVER THE INPUT: true; the input reads as it did. -/
def sumTellsSpec : ChangeSpec := { name := "sumTells", fn := fun _ => fun
  | [d1, d2, d3] => { results := [.lit (.bool true)], args := [d1, d2, d3] }
  | _ => none }
def sumTellsRow : OpenClaim := { program := "ytpfcmepiiphbiaa", sum := "006a59bdc6d619415d9de4f7a653919a67e0ce82e6265a02fc81b12cd5ebe62e", func := "calliper/calliperlaw05.SumTells", spec := "sumTells", unfollowed := true, recurses := true, apart := false }
def SumTellsSaid : Prop := sumTellsRow.holds Try.pinned (OpenSpec.ofChange sumTellsSpec)

/-- ITS FALSE NEIGHBOUR: 'it returns false'. Refute it at one input. -/
def sumTellsWrong : ChangeSpec := { name := "sumTells", fn := fun _ => fun
  | [d1, d2, d3] => { results := [.lit (.bool false)], args := [d1, d2, d3] }
  | _ => none }
def SumTellsWrongFalsely : Prop := sumTellsRow.holds Try.pinned (OpenSpec.ofChange sumTellsWrong)

/- THE SECOND FORM. 'bulk': how many values and letters a reading holds, each counted each time it is reached (what is shared counts as often as it is met; a slice's spare places count too). A statement '..UptoSaid' is the law's where the arguments, and the package variables that the reading takes, are together of bulk at most 1048576: NARROWER than '..Said'. Prove '..Said' where nothing that the law and all that it calls make is longer than what came in: it says more and counts as full. Else prove '..UptoSaid'. A law counts once. -/
mutual
def uptoBulk {H : Type} : DataW H → Nat
  | .lit (.string bytes) => bytes.length + 1
  | .lit _ => 1
  | .nil => 1
  | .ptr d => uptoBulk d + 1
  | .slice elems spare => uptoBulkAll elems + uptoBulkAll spare + 1
  | .agg parts => uptoBulkAll parts + 1
  | .iface _ d => uptoBulk d + 1
  | .map entries => uptoBulkEntries entries + 1
  | .held _ => 1
def uptoBulkAll {H : Type} : List (DataW H) → Nat
  | [] => 0
  | d :: r => uptoBulk d + uptoBulkAll r
def uptoBulkEntries {H : Type} : List (Lit × DataW H) → Nat
  | [] => 0
  | x :: r => uptoBulkEntry x + uptoBulkEntries r
def uptoBulkEntry {H : Type} : Lit × DataW H → Nat
  | (.string bytes, d) => bytes.length + uptoBulk d + 1
  | (_, d) => uptoBulk d + 1
 end
def uptoSmall : (H : Type) → List (DataW H) → Bool := fun _ ds => decide (uptoBulkAll ds ≤ 1048576)
def OpenSpec.upto (s : _root_.Go.ChangeSpec) : _root_.Go.OpenSpec := { _root_.Go.OpenSpec.ofChange s with cond := some uptoSmall }

/-- 'calliperlaw04.NumOrder', WHERE WHAT IT READS IS OF BULK AT MOST 1048576: true; the input reads as it did. -/
def numOrderUptoRow : OpenClaim := { program := "ytpfcmepiiphbiaa", sum := "006a59bdc6d619415d9de4f7a653919a67e0ce82e6265a02fc81b12cd5ebe62e", func := "calliper/calliperlaw04.NumOrder", spec := "numOrder", apart := false, narrowed := true }
def NumOrderUptoSaid : Prop := numOrderUptoRow.holds Try.pinned (OpenSpec.upto numOrderSpec)

/-- 'calliperlaw04.NumSigns', WHERE WHAT IT READS IS OF BULK AT MOST 1048576: true; the input reads as it did. -/
def numSignsUptoRow : OpenClaim := { program := "ytpfcmepiiphbiaa", sum := "006a59bdc6d619415d9de4f7a653919a67e0ce82e6265a02fc81b12cd5ebe62e", func := "calliper/calliperlaw04.NumSigns", spec := "numSigns", apart := false, narrowed := true }
def NumSignsUptoSaid : Prop := numSignsUptoRow.holds Try.pinned (OpenSpec.upto numSignsSpec)

/-- 'calliperlaw04.NumPuts', WHERE WHAT IT READS IS OF BULK AT MOST 1048576: true; the input reads as it did. -/
def numPutsUptoRow : OpenClaim := { program := "ytpfcmepiiphbiaa", sum := "006a59bdc6d619415d9de4f7a653919a67e0ce82e6265a02fc81b12cd5ebe62e", func := "calliper/calliperlaw04.NumPuts", spec := "numPuts", apart := false, narrowed := true }
def NumPutsUptoSaid : Prop := numPutsUptoRow.holds Try.pinned (OpenSpec.upto numPutsSpec)

/-- 'calliperlaw04.NumBack', WHERE WHAT IT READS IS OF BULK AT MOST 1048576: true; the input reads as it did. -/
def numBackUptoRow : OpenClaim := { program := "ytpfcmepiiphbiaa", sum := "006a59bdc6d619415d9de4f7a653919a67e0ce82e6265a02fc81b12cd5ebe62e", func := "calliper/calliperlaw04.NumBack", spec := "numBack", apart := false, narrowed := true }
def NumBackUptoSaid : Prop := numBackUptoRow.holds Try.pinned (OpenSpec.upto numBackSpec)

/-- 'calliperlaw04.NumCuts', WHERE WHAT IT READS IS OF BULK AT MOST 1048576: true; the input reads as it did. -/
def numCutsUptoRow : OpenClaim := { program := "ytpfcmepiiphbiaa", sum := "006a59bdc6d619415d9de4f7a653919a67e0ce82e6265a02fc81b12cd5ebe62e", func := "calliper/calliperlaw04.NumCuts", spec := "numCuts", apart := false, narrowed := true }
def NumCutsUptoSaid : Prop := numCutsUptoRow.holds Try.pinned (OpenSpec.upto numCutsSpec)

/-- 'calliperlaw04.NumFits', WHERE WHAT IT READS IS OF BULK AT MOST 1048576: true; the input reads as it did. -/
def numFitsUptoRow : OpenClaim := { program := "ytpfcmepiiphbiaa", sum := "006a59bdc6d619415d9de4f7a653919a67e0ce82e6265a02fc81b12cd5ebe62e", func := "calliper/calliperlaw04.NumFits", spec := "numFits", apart := false, narrowed := true }
def NumFitsUptoSaid : Prop := numFitsUptoRow.holds Try.pinned (OpenSpec.upto numFitsSpec)

/-- 'calliperlaw05.SumOrder', WHERE WHAT IT READS IS OF BULK AT MOST 1048576: true; the input reads as it did. -/
def sumOrderUptoRow : OpenClaim := { program := "ytpfcmepiiphbiaa", sum := "006a59bdc6d619415d9de4f7a653919a67e0ce82e6265a02fc81b12cd5ebe62e", func := "calliper/calliperlaw05.SumOrder", spec := "sumOrder", unfollowed := true, recurses := true, apart := false, narrowed := true }
def SumOrderUptoSaid : Prop := sumOrderUptoRow.holds Try.pinned (OpenSpec.upto sumOrderSpec)

/-- 'calliperlaw05.SumBits', WHERE WHAT IT READS IS OF BULK AT MOST 1048576: true; the input reads as it did. -/
def sumBitsUptoRow : OpenClaim := { program := "ytpfcmepiiphbiaa", sum := "006a59bdc6d619415d9de4f7a653919a67e0ce82e6265a02fc81b12cd5ebe62e", func := "calliper/calliperlaw05.SumBits", spec := "sumBits", unfollowed := true, recurses := true, apart := false, narrowed := true }
def SumBitsUptoSaid : Prop := sumBitsUptoRow.holds Try.pinned (OpenSpec.upto sumBitsSpec)

/-- 'calliperlaw05.SumWords', WHERE WHAT IT READS IS OF BULK AT MOST 1048576: true; the input reads as it did. -/
def sumWordsUptoRow : OpenClaim := { program := "ytpfcmepiiphbiaa", sum := "006a59bdc6d619415d9de4f7a653919a67e0ce82e6265a02fc81b12cd5ebe62e", func := "calliper/calliperlaw05.SumWords", spec := "sumWords", unfollowed := true, recurses := true, apart := false, narrowed := true }
def SumWordsUptoSaid : Prop := sumWordsUptoRow.holds Try.pinned (OpenSpec.upto sumWordsSpec)

/-- 'calliperlaw05.SumZeros', WHERE WHAT IT READS IS OF BULK AT MOST 1048576: true; the input reads as it did. -/
def sumZerosUptoRow : OpenClaim := { program := "ytpfcmepiiphbiaa", sum := "006a59bdc6d619415d9de4f7a653919a67e0ce82e6265a02fc81b12cd5ebe62e", func := "calliper/calliperlaw05.SumZeros", spec := "sumZeros", unfollowed := true, recurses := true, apart := false, narrowed := true }
def SumZerosUptoSaid : Prop := sumZerosUptoRow.holds Try.pinned (OpenSpec.upto sumZerosSpec)

/-- 'calliperlaw05.SumParts', WHERE WHAT IT READS IS OF BULK AT MOST 1048576: true; the input reads as it did. -/
def sumPartsUptoRow : OpenClaim := { program := "ytpfcmepiiphbiaa", sum := "006a59bdc6d619415d9de4f7a653919a67e0ce82e6265a02fc81b12cd5ebe62e", func := "calliper/calliperlaw05.SumParts", spec := "sumParts", unfollowed := true, recurses := true, apart := false, narrowed := true }
def SumPartsUptoSaid : Prop := sumPartsUptoRow.holds Try.pinned (OpenSpec.upto sumPartsSpec)

/-- 'calliperlaw05.SumTells', WHERE WHAT IT READS IS OF BULK AT MOST 1048576: true; the input reads as it did. -/
def sumTellsUptoRow : OpenClaim := { program := "ytpfcmepiiphbiaa", sum := "006a59bdc6d619415d9de4f7a653919a67e0ce82e6265a02fc81b12cd5ebe62e", func := "calliper/calliperlaw05.SumTells", spec := "sumTells", unfollowed := true, recurses := true, apart := false, narrowed := true }
def SumTellsUptoSaid : Prop := sumTellsUptoRow.holds Try.pinned (OpenSpec.upto sumTellsSpec)

end Rows
end Go.Proofs.Ytpfcmepiiphbiaa
