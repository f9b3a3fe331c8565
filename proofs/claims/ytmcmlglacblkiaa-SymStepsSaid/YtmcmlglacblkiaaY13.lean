/- SymSteps: the walk, whole. -/
import Derived.Test.YtmcmlglacblkiaaY121f
import Derived.Test.YtmcmlglacblkiaaY121t
import Derived.Test.YtmcmlglacblkiaaY122f
import Derived.Test.YtmcmlglacblkiaaY122t
import Derived.Test.YtmcmlglacblkiaaY124f
import Derived.Test.YtmcmlglacblkiaaY124t
namespace Go.Proofs.Ytmcmlglacblkiaa
open Go.RowKit
theorem steps_any (s : Sy) (w : World) (h : s.wf) : Calls Try.prog 5 #[s.val] w fun e w' => e = .returned (.bool true) ∧ Below w.heap.size w w' := by
  have hb := and1023 s.wd
  have h3 : bits .and .i64 s.wd 1023 % 3 = 0 ∨ bits .and .i64 s.wd 1023 % 3 = 1 ∨ bits .and .i64 s.wd 1023 % 3 = 2 := by omega
  rcases h3 with h3 | h3 | h3
  · cases hs : s.sg
    · exact steps_1f s w h h3 hs
    · exact steps_1t s w h h3 hs
  · cases hs : s.sg
    · exact steps_2f s w h h3 hs
    · exact steps_2t s w h h3 hs
  · cases hs : s.sg
    · exact steps_4f s w h h3 hs
    · exact steps_4t s w h h3 hs
end Go.Proofs.Ytmcmlglacblkiaa
