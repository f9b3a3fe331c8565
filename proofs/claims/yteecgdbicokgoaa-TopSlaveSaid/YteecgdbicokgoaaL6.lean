/- Unlock of anything; the examples; LockNil and LockFree. -/
import Derived.Test.YteecgdbicokgoaaL5
namespace Go.Proofs.Yteecgdbicokgoaa
open Go.RowKit
set_option linter.unusedVariables false
set_option linter.unusedSimpArgs false
set_option maxRecDepth 100000
theorem unlock_any {w : World} {B l : Nat} {Φ : Nat → Prop} {a : LX} (h : LAt w B Φ l a) (hB : B ≤ w.heap.size) (left : Int) (A : Option Addr) (n c : Nat) (xs : List Int) (h0 : -9223372036854775808 ≤ left) (h1 : left ≤ 9223372036854775807) (hn : n ≤ maxLen) (hx : xs.length = n) (hr : Rd w w.heap.size A (u8s xs)) (hu : by8 xs) :
    Calls Try.prog 116 #[.pointer (some ⟨l, 0, none⟩), .int .i64 left, .slice A n c] w (UnP w B Φ l (unlockX a left xs)) := by
  unfold unlockX
  cases ho : a.out with
  | none => exact unlock_no h left A n c h0 h1 hn (fun d hd => by rw [ho] at hd; cases hd)
  | some d =>
    dsimp only
    by_cases hc : d.told = d.s.length ∧ left = ((d.s.length - d.came.length : Nat) : Int) ∧ (xs.length : Int) = min left 6
    · rw [if_pos hc]
      obtain ⟨c1, rfl, c3⟩ := hc
      exact unlock_yes h hB d ho A n c xs hx hr hu c1 (by rw [← hx]; exact c3)
    · rw [if_neg hc]
      refine unlock_no h left A n c h0 h1 hn (fun d' hd => ?_)
      rw [ho] at hd
      injection hd with hd
      subst hd
      rw [← hx]
      exact hc
end Go.Proofs.Yteecgdbicokgoaa
