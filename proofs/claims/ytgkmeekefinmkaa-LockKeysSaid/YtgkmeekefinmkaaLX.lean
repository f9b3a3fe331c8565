/- A byte turned by another one. -/
import Derived.Test.YtgkmeekefinmkaaL1
namespace Go.Proofs.Ytgkmeekefinmkaa
open Go.RowKit
set_option linter.unusedVariables false
set_option linter.unusedSimpArgs false
theorem xor_same (a b : Int) (ha : 0 ≤ a ∧ a < 256) (hb : 0 ≤ b ∧ b < 256) : bits .xor .u8 a b = a ↔ b = 0 := by
  have key : ∀ k l : Fin 256, (bits .xor .u8 k.val l.val = k.val ↔ (l.val : Int) = 0) := by decide +kernel
  have := key ⟨a.toNat, by omega⟩ ⟨b.toNat, by omega⟩
  have e1 : ((a.toNat : Nat) : Int) = a := by omega
  have e2 : ((b.toNat : Nat) : Int) = b := by omega
  simpa [e1, e2] using this
end Go.Proofs.Ytgkmeekefinmkaa
