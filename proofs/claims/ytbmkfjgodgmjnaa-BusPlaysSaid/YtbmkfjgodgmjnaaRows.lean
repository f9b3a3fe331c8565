/-
  No cell of these rows narrows 'for every input' (looked for: loops, veiled, ifaces, maps, wideKeys, modest, calm, conditions, laid).
  DERIVED. THE GIVEN ROWS OF THIS SEAT. 11 by the template 'for every input the law returns true; each argument reads behind the call as it read before'; 0 by the template 'total and deterministic' (their statements: YtbmkfjgodgmjnaaTotals.lean).
  GIVEN WITH THE SEED: the statements are not yours to turn. If you find one false, say at which input.
  Laid BY PROGRAM, IN A SANDBOX (cutbox-rows.mjs): the forced cells as the released guide's own fill.sh prints them over the translation d3b0dbaccb180b02… (all of the seat's roots in one cut). By AI agents, Wed Nov 11 2026. No macro, syntax, notation, axiom, sorry.
-/
import Derived.Test.YtbmkfjgodgmjnaaChecked
import GoSem.Claim
import GoSem.ClaimJoined
import GoSem.ClaimMapViews
import Derived.JoinedTies
import Derived.KernelRfl
namespace Go.Proofs.Ytbmkfjgodgmjnaa
/- THE CELL 'sum', in the pinned program and in every row, IS THE sha256 OF THE DUMP (.gsa) THAT YtbmkfjgodgmjnaaProg.lean LOADS. Nothing in Lean hashes anything: it is a label: what it is worth is what the hold of that sum in a sandbox is worth. -/
noncomputable def Try.pinned : Pinned := { name := "ytbmkfjgodgmjnaa", sum := "d3b0dbaccb180b02ba4271fa70f271801dc684fd57c780d8fa9c2345d023d6fe", checked := Try.checked }
namespace Rows
def none {H : Type} : Left H := { results := [], args := [] }

/-- 'calliperlaw02.BoxFilters': WHATEVER THE INPUT: true; the input reads as it did. -/
def boxFiltersSpec : ChangeSpec := { name := "boxFilters", fn := fun _ => fun
  | [d1, d2] => { results := [.lit (.bool true)], args := [d1, d2] }
  | _ => none }
def boxFiltersRow : OpenClaim := { program := "ytbmkfjgodgmjnaa", sum := "d3b0dbaccb180b02ba4271fa70f271801dc684fd57c780d8fa9c2345d023d6fe", func := "calliper/calliperlaw02.BoxFilters", spec := "boxFilters", inPlace := ["slices.overlaps[calliper/api.Frame]"], unfollowed := true, recurses := true, apart := false }
def BoxFiltersSaid : Prop := boxFiltersRow.holds Try.pinned (OpenSpec.ofChange boxFiltersSpec)

/-- ITS FALSE NEIGHBOUR: 'it returns false'. Refute it at one input. -/
def boxFiltersWrong : ChangeSpec := { name := "boxFilters", fn := fun _ => fun
  | [d1, d2] => { results := [.lit (.bool false)], args := [d1, d2] }
  | _ => none }
def BoxFiltersWrongFalsely : Prop := boxFiltersRow.holds Try.pinned (OpenSpec.ofChange boxFiltersWrong)

/-- 'calliperlaw02.BoxSends': WHATEVER THE INPUT: true; the input reads as it did. -/
def boxSendsSpec : ChangeSpec := { name := "boxSends", fn := fun _ => fun
  | [d] => { results := [.lit (.bool true)], args := [d] }
  | _ => none }
def boxSendsRow : OpenClaim := { program := "ytbmkfjgodgmjnaa", sum := "d3b0dbaccb180b02ba4271fa70f271801dc684fd57c780d8fa9c2345d023d6fe", func := "calliper/calliperlaw02.BoxSends", spec := "boxSends", inPlace := ["slices.overlaps[calliper/api.Frame]"], unfollowed := true, recurses := true, apart := false }
def BoxSendsSaid : Prop := boxSendsRow.holds Try.pinned (OpenSpec.ofChange boxSendsSpec)

/-- ITS FALSE NEIGHBOUR: 'it returns false'. Refute it at one input. -/
def boxSendsWrong : ChangeSpec := { name := "boxSends", fn := fun _ => fun
  | [d] => { results := [.lit (.bool false)], args := [d] }
  | _ => none }
def BoxSendsWrongFalsely : Prop := boxSendsRow.holds Try.pinned (OpenSpec.ofChange boxSendsWrong)

/-- 'calliperlaw02.BoxTakes': WHATEVER THE INPUT: true; the input reads as it did. -/
def boxTakesSpec : ChangeSpec := { name := "boxTakes", fn := fun _ => fun
  | [d1, d2] => { results := [.lit (.bool true)], args := [d1, d2] }
  | _ => none }
def boxTakesRow : OpenClaim := { program := "ytbmkfjgodgmjnaa", sum := "d3b0dbaccb180b02ba4271fa70f271801dc684fd57c780d8fa9c2345d023d6fe", func := "calliper/calliperlaw02.BoxTakes", spec := "boxTakes", inPlace := ["slices.overlaps[calliper/api.Frame]"], unfollowed := true, recurses := true, apart := false }
def BoxTakesSaid : Prop := boxTakesRow.holds Try.pinned (OpenSpec.ofChange boxTakesSpec)

/-- ITS FALSE NEIGHBOUR: 'it returns false'. Refute it at one input. -/
def boxTakesWrong : ChangeSpec := { name := "boxTakes", fn := fun _ => fun
  | [d1, d2] => { results := [.lit (.bool false)], args := [d1, d2] }
  | _ => none }
def BoxTakesWrongFalsely : Prop := boxTakesRow.holds Try.pinned (OpenSpec.ofChange boxTakesWrong)

/-- 'calliperlaw02.BoxPlays': WHATEVER THE INPUT: true; the input reads as it did. -/
def boxPlaysSpec : ChangeSpec := { name := "boxPlays", fn := fun _ => fun
  | [d1, d2] => { results := [.lit (.bool true)], args := [d1, d2] }
  | _ => none }
def boxPlaysRow : OpenClaim := { program := "ytbmkfjgodgmjnaa", sum := "d3b0dbaccb180b02ba4271fa70f271801dc684fd57c780d8fa9c2345d023d6fe", func := "calliper/calliperlaw02.BoxPlays", spec := "boxPlays", inPlace := ["slices.overlaps[calliper/api.Frame]"], unfollowed := true, recurses := true, apart := false }
def BoxPlaysSaid : Prop := boxPlaysRow.holds Try.pinned (OpenSpec.ofChange boxPlaysSpec)

/-- ITS FALSE NEIGHBOUR: 'it returns false'. Refute it at one input. -/
def boxPlaysWrong : ChangeSpec := { name := "boxPlays", fn := fun _ => fun
  | [d1, d2] => { results := [.lit (.bool false)], args := [d1, d2] }
  | _ => none }
def BoxPlaysWrongFalsely : Prop := boxPlaysRow.holds Try.pinned (OpenSpec.ofChange boxPlaysWrong)

/-- 'calliperlaw02.BoxNil': WHATEVER THE INPUT: true; the input reads as it did. -/
def boxNilSpec : ChangeSpec := { name := "boxNil", fn := fun _ => fun
  | [d] => { results := [.lit (.bool true)], args := [d] }
  | _ => none }
def boxNilRow : OpenClaim := { program := "ytbmkfjgodgmjnaa", sum := "d3b0dbaccb180b02ba4271fa70f271801dc684fd57c780d8fa9c2345d023d6fe", func := "calliper/calliperlaw02.BoxNil", spec := "boxNil", inPlace := ["slices.overlaps[calliper/api.Frame]"], unfollowed := true, recurses := true, apart := false }
def BoxNilSaid : Prop := boxNilRow.holds Try.pinned (OpenSpec.ofChange boxNilSpec)

/-- ITS FALSE NEIGHBOUR: 'it returns false'. Refute it at one input. -/
def boxNilWrong : ChangeSpec := { name := "boxNil", fn := fun _ => fun
  | [d] => { results := [.lit (.bool false)], args := [d] }
  | _ => none }
def BoxNilWrongFalsely : Prop := boxNilRow.holds Try.pinned (OpenSpec.ofChange boxNilWrong)

/-- 'calliperlaw02.BoxRanks': WHATEVER THE INPUT: true; the input reads as it did. -/
def boxRanksSpec : ChangeSpec := { name := "boxRanks", fn := fun _ => fun
  | [d] => { results := [.lit (.bool true)], args := [d] }
  | _ => none }
def boxRanksRow : OpenClaim := { program := "ytbmkfjgodgmjnaa", sum := "d3b0dbaccb180b02ba4271fa70f271801dc684fd57c780d8fa9c2345d023d6fe", func := "calliper/calliperlaw02.BoxRanks", spec := "boxRanks", inPlace := ["slices.overlaps[calliper/api.Frame]"], unfollowed := true, recurses := true, apart := false }
def BoxRanksSaid : Prop := boxRanksRow.holds Try.pinned (OpenSpec.ofChange boxRanksSpec)

/-- ITS FALSE NEIGHBOUR: 'it returns false'. Refute it at one input. -/
def boxRanksWrong : ChangeSpec := { name := "boxRanks", fn := fun _ => fun
  | [d] => { results := [.lit (.bool false)], args := [d] }
  | _ => none }
def BoxRanksWrongFalsely : Prop := boxRanksRow.holds Try.pinned (OpenSpec.ofChange boxRanksWrong)

/-- 'calliperlaw03.BusRanks': WHATEVER THE INPUT: true; the input reads as it did. -/
def busRanksSpec : ChangeSpec := { name := "busRanks", fn := fun _ => fun
  | [d] => { results := [.lit (.bool true)], args := [d] }
  | _ => none }
def busRanksRow : OpenClaim := { program := "ytbmkfjgodgmjnaa", sum := "d3b0dbaccb180b02ba4271fa70f271801dc684fd57c780d8fa9c2345d023d6fe", func := "calliper/calliperlaw03.BusRanks", spec := "busRanks", inPlace := ["slices.overlaps[calliper/api.Frame]"], unfollowed := true, recurses := true, apart := false }
def BusRanksSaid : Prop := busRanksRow.holds Try.pinned (OpenSpec.ofChange busRanksSpec)

/-- ITS FALSE NEIGHBOUR: 'it returns false'. Refute it at one input. -/
def busRanksWrong : ChangeSpec := { name := "busRanks", fn := fun _ => fun
  | [d] => { results := [.lit (.bool false)], args := [d] }
  | _ => none }
def BusRanksWrongFalsely : Prop := busRanksRow.holds Try.pinned (OpenSpec.ofChange busRanksWrong)

/-- 'calliperlaw03.BusComes': WHATEVER THE INPUT: true; the input reads as it did. -/
def busComesSpec : ChangeSpec := { name := "busComes", fn := fun _ => fun
  | [d1, d2, d3, d4] => { results := [.lit (.bool true)], args := [d1, d2, d3, d4] }
  | _ => none }
def busComesRow : OpenClaim := { program := "ytbmkfjgodgmjnaa", sum := "d3b0dbaccb180b02ba4271fa70f271801dc684fd57c780d8fa9c2345d023d6fe", func := "calliper/calliperlaw03.BusComes", spec := "busComes", inPlace := ["slices.overlaps[calliper/api.Frame]"], unfollowed := true, recurses := true, apart := false }
def BusComesSaid : Prop := busComesRow.holds Try.pinned (OpenSpec.ofChange busComesSpec)

/-- ITS FALSE NEIGHBOUR: 'it returns false'. Refute it at one input. -/
def busComesWrong : ChangeSpec := { name := "busComes", fn := fun _ => fun
  | [d1, d2, d3, d4] => { results := [.lit (.bool false)], args := [d1, d2, d3, d4] }
  | _ => none }
def BusComesWrongFalsely : Prop := busComesRow.holds Try.pinned (OpenSpec.ofChange busComesWrong)

/-- 'calliperlaw03.BusNone': WHATEVER THE INPUT: true; the input reads as it did. -/
def busNoneSpec : ChangeSpec := { name := "busNone", fn := fun _ => fun
  | [d1, d2] => { results := [.lit (.bool true)], args := [d1, d2] }
  | _ => none }
def busNoneRow : OpenClaim := { program := "ytbmkfjgodgmjnaa", sum := "d3b0dbaccb180b02ba4271fa70f271801dc684fd57c780d8fa9c2345d023d6fe", func := "calliper/calliperlaw03.BusNone", spec := "busNone", inPlace := ["slices.overlaps[calliper/api.Frame]"], unfollowed := true, recurses := true, apart := false }
def BusNoneSaid : Prop := busNoneRow.holds Try.pinned (OpenSpec.ofChange busNoneSpec)

/-- ITS FALSE NEIGHBOUR: 'it returns false'. Refute it at one input. -/
def busNoneWrong : ChangeSpec := { name := "busNone", fn := fun _ => fun
  | [d1, d2] => { results := [.lit (.bool false)], args := [d1, d2] }
  | _ => none }
def BusNoneWrongFalsely : Prop := busNoneRow.holds Try.pinned (OpenSpec.ofChange busNoneWrong)

/-- 'calliperlaw03.BusPlays': WHATEVER THE INPUT: true; the input reads as it did. -/
def busPlaysSpec : ChangeSpec := { name := "busPlays", fn := fun _ => fun
  | [d1, d2] => { results := [.lit (.bool true)], args := [d1, d2] }
  | _ => none }
def busPlaysRow : OpenClaim := { program := "ytbmkfjgodgmjnaa", sum := "d3b0dbaccb180b02ba4271fa70f271801dc684fd57c780d8fa9c2345d023d6fe", func := "calliper/calliperlaw03.BusPlays", spec := "busPlays", inPlace := ["slices.overlaps[calliper/api.Frame]"], unfollowed := true, recurses := true, apart := false }
def BusPlaysSaid : Prop := busPlaysRow.holds Try.pinned (OpenSpec.ofChange busPlaysSpec)

/-- ITS FALSE NEIGHBOUR: 'it returns false'. Refute it at one input. -/
def busPlaysWrong : ChangeSpec := { name := "busPlays", fn := fun _ => fun
  | [d1, d2] => { results := [.lit (.bool false)], args := [d1, d2] }
  | _ => none }
def BusPlaysWrongFalsely : Prop := busPlaysRow.holds Try.pinned (OpenSpec.ofChange busPlaysWrong)

/-- 'calliperlaw03.BusOnce': WHATEVER THE INPUT: true; the input reads as it did. -/
def busOnceSpec : ChangeSpec := { name := "busOnce", fn := fun _ => fun
  | [d1, d2] => { results := [.lit (.bool true)], args := [d1, d2] }
  | _ => none }
def busOnceRow : OpenClaim := { program := "ytbmkfjgodgmjnaa", sum := "d3b0dbaccb180b02ba4271fa70f271801dc684fd57c780d8fa9c2345d023d6fe", func := "calliper/calliperlaw03.BusOnce", spec := "busOnce", inPlace := ["slices.overlaps[calliper/api.Frame]"], unfollowed := true, recurses := true, apart := false }
def BusOnceSaid : Prop := busOnceRow.holds Try.pinned (OpenSpec.ofChange busOnceSpec)

/-- ITS FALSE NEIGHBOUR: 'it returns false'. Refute it at one input. -/
def busOnceWrong : ChangeSpec := { name := "busOnce", fn := fun _ => fun
  | [d1, d2] => { results := [.lit (.bool false)], args := [d1, d2] }
  | _ => none }
def BusOnceWrongFalsely : Prop := busOnceRow.holds Try.pinned (OpenSpec.ofChange busOnceWrong)

/- THE SECOND FORM. 'bulk': how many values and letters a reading holds, each counted each time it is reached (what is shared counts as often as it is met; a slice's spare places count too). A statement '..UptoSaid' is the law's where the arguments, and the package variables that the reading takes, are together of bulk at most 1048576: NARROWER than '..Said'. Prove '..Said' where nothing that the law and all that it calls make is longer than what came in: it says more and counts as full. Else prove '..UptoSaid'. A law counts once. -/
mutual
def uptoBulk {H : Type} : DataW H → Nat
  | .lit (.string bytes) => bytes.length + 1
  | .lit _ => 1
  | .nil => 1
  | .ptr d => uptoBulk d + 1
  | .slice elems spare => uptoBulkAll elems + uptoBulkAll spare + 1
  | .agg parts => uptoBulkAll parts + 1
  | .iface _ d => uptoBulk d + 1
  | .map entries => uptoBulkEntries entries + 1
  | .held _ => 1
def uptoBulkAll {H : Type} : List (DataW H) → Nat
  | [] => 0
  | d :: r => uptoBulk d + uptoBulkAll r
def uptoBulkEntries {H : Type} : List (Lit × DataW H) → Nat
  | [] => 0
  | x :: r => uptoBulkEntry x + uptoBulkEntries r
def uptoBulkEntry {H : Type} : Lit × DataW H → Nat
  | (.string bytes, d) => bytes.length + uptoBulk d + 1
  | (_, d) => uptoBulk d + 1
 end
def uptoSmall : (H : Type) → List (DataW H) → Bool := fun _ ds => decide (uptoBulkAll ds ≤ 1048576)
def OpenSpec.upto (s : _root_.Go.ChangeSpec) : _root_.Go.OpenSpec := { _root_.Go.OpenSpec.ofChange s with cond := some uptoSmall }

/-- 'calliperlaw02.BoxFilters', WHERE WHAT IT READS IS OF BULK AT MOST 1048576: true; the input reads as it did. -/
def boxFiltersUptoRow : OpenClaim := { program := "ytbmkfjgodgmjnaa", sum := "d3b0dbaccb180b02ba4271fa70f271801dc684fd57c780d8fa9c2345d023d6fe", func := "calliper/calliperlaw02.BoxFilters", spec := "boxFilters", inPlace := ["slices.overlaps[calliper/api.Frame]"], unfollowed := true, recurses := true, apart := false, narrowed := true }
def BoxFiltersUptoSaid : Prop := boxFiltersUptoRow.holds Try.pinned (OpenSpec.upto boxFiltersSpec)

/-- 'calliperlaw02.BoxSends', WHERE WHAT IT READS IS OF BULK AT MOST 1048576: true; the input reads as it did. -/
def boxSendsUptoRow : OpenClaim := { program := "ytbmkfjgodgmjnaa", sum := "d3b0dbaccb180b02ba4271fa70f271801dc684fd57c780d8fa9c2345d023d6fe", func := "calliper/calliperlaw02.BoxSends", spec := "boxSends", inPlace := ["slices.overlaps[calliper/api.Frame]"], unfollowed := true, recurses := true, apart := false, narrowed := true }
def BoxSendsUptoSaid : Prop := boxSendsUptoRow.holds Try.pinned (OpenSpec.upto boxSendsSpec)

/-- 'calliperlaw02.BoxTakes', WHERE WHAT IT READS IS OF BULK AT MOST 1048576: true; the input reads as it did. -/
def boxTakesUptoRow : OpenClaim := { program := "ytbmkfjgodgmjnaa", sum := "d3b0dbaccb180b02ba4271fa70f271801dc684fd57c780d8fa9c2345d023d6fe", func := "calliper/calliperlaw02.BoxTakes", spec := "boxTakes", inPlace := ["slices.overlaps[calliper/api.Frame]"], unfollowed := true, recurses := true, apart := false, narrowed := true }
def BoxTakesUptoSaid : Prop := boxTakesUptoRow.holds Try.pinned (OpenSpec.upto boxTakesSpec)

/-- 'calliperlaw02.BoxPlays', WHERE WHAT IT READS IS OF BULK AT MOST 1048576: true; the input reads as it did. -/
def boxPlaysUptoRow : OpenClaim := { program := "ytbmkfjgodgmjnaa", sum := "d3b0dbaccb180b02ba4271fa70f271801dc684fd57c780d8fa9c2345d023d6fe", func := "calliper/calliperlaw02.BoxPlays", spec := "boxPlays", inPlace := ["slices.overlaps[calliper/api.Frame]"], unfollowed := true, recurses := true, apart := false, narrowed := true }
def BoxPlaysUptoSaid : Prop := boxPlaysUptoRow.holds Try.pinned (OpenSpec.upto boxPlaysSpec)

/-- 'calliperlaw02.BoxNil', WHERE WHAT IT READS IS OF BULK AT MOST 1048576: true; the input reads as it did. -/
def boxNilUptoRow : OpenClaim := { program := "ytbmkfjgodgmjnaa", sum := "d3b0dbaccb180b02ba4271fa70f271801dc684fd57c780d8fa9c2345d023d6fe", func := "calliper/calliperlaw02.BoxNil", spec := "boxNil", inPlace := ["slices.overlaps[calliper/api.Frame]"], unfollowed := true, recurses := true, apart := false, narrowed := true }
def BoxNilUptoSaid : Prop := boxNilUptoRow.holds Try.pinned (OpenSpec.upto boxNilSpec)

/-- 'calliperlaw02.BoxRanks', WHERE WHAT IT READS IS OF BULK AT MOST 1048576: true; the input reads as it did. -/
def boxRanksUptoRow : OpenClaim := { program := "ytbmkfjgodgmjnaa", sum := "d3b0dbaccb180b02ba4271fa70f271801dc684fd57c780d8fa9c2345d023d6fe", func := "calliper/calliperlaw02.BoxRanks", spec := "boxRanks", inPlace := ["slices.overlaps[calliper/api.Frame]"], unfollowed := true, recurses := true, apart := false, narrowed := true }
def BoxRanksUptoSaid : Prop := boxRanksUptoRow.holds Try.pinned (OpenSpec.upto boxRanksSpec)

/-- 'calliperlaw03.BusRanks', WHERE WHAT IT READS IS OF BULK AT MOST 1048576: true; the input reads as it did. -/
def busRanksUptoRow : OpenClaim := { program := "ytbmkfjgodgmjnaa", sum := "d3b0dbaccb180b02ba4271fa70f271801dc684fd57c780d8fa9c2345d023d6fe", func := "calliper/calliperlaw03.BusRanks", spec := "busRanks", inPlace := ["slices.overlaps[calliper/api.Frame]"], unfollowed := true, recurses := true, apart := false, narrowed := true }
def BusRanksUptoSaid : Prop := busRanksUptoRow.holds Try.pinned (OpenSpec.upto busRanksSpec)

/-- 'calliperlaw03.BusComes', WHERE WHAT IT READS IS OF BULK AT MOST 1048576: true; the input reads as it did. -/
def busComesUptoRow : OpenClaim := { program := "ytbmkfjgodgmjnaa", sum := "d3b0dbaccb180b02ba4271fa70f271801dc684fd57c780d8fa9c2345d023d6fe", func := "calliper/calliperlaw03.BusComes", spec := "busComes", inPlace := ["slices.overlaps[calliper/api.Frame]"], unfollowed := true, recurses := true, apart := false, narrowed := true }
def BusComesUptoSaid : Prop := busComesUptoRow.holds Try.pinned (OpenSpec.upto busComesSpec)

/-- 'calliperlaw03.BusNone', WHERE WHAT IT READS IS OF BULK AT MOST 1048576: true; the input reads as it did. -/
def busNoneUptoRow : OpenClaim := { program := "ytbmkfjgodgmjnaa", sum := "d3b0dbaccb180b02ba4271fa70f271801dc684fd57c780d8fa9c2345d023d6fe", func := "calliper/calliperlaw03.BusNone", spec := "busNone", inPlace := ["slices.overlaps[calliper/api.Frame]"], unfollowed := true, recurses := true, apart := false, narrowed := true }
def BusNoneUptoSaid : Prop := busNoneUptoRow.holds Try.pinned (OpenSpec.upto busNoneSpec)

/-- 'calliperlaw03.BusPlays', WHERE WHAT IT READS IS OF BULK AT MOST 1048576: true; the input reads as it did. -/
def busPlaysUptoRow : OpenClaim := { program := "ytbmkfjgodgmjnaa", sum := "d3b0dbaccb180b02ba4271fa70f271801dc684fd57c780d8fa9c2345d023d6fe", func := "calliper/calliperlaw03.BusPlays", spec := "busPlays", inPlace := ["slices.overlaps[calliper/api.Frame]"], unfollowed := true, recurses := true, apart := false, narrowed := true }
def BusPlaysUptoSaid : Prop := busPlaysUptoRow.holds Try.pinned (OpenSpec.upto busPlaysSpec)

/-- 'calliperlaw03.BusOnce', WHERE WHAT IT READS IS OF BULK AT MOST 1048576: true; the input reads as it did. -/
def busOnceUptoRow : OpenClaim := { program := "ytbmkfjgodgmjnaa", sum := "d3b0dbaccb180b02ba4271fa70f271801dc684fd57c780d8fa9c2345d023d6fe", func := "calliper/calliperlaw03.BusOnce", spec := "busOnce", inPlace := ["slices.overlaps[calliper/api.Frame]"], unfollowed := true, recurses := true, apart := false, narrowed := true }
def BusOnceUptoSaid : Prop := busOnceUptoRow.holds Try.pinned (OpenSpec.upto busOnceSpec)

end Rows
end Go.Proofs.Ytbmkfjgodgmjnaa
