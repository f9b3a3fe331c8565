/- The reference's Seed and Unlock of anything; few. -/
import Derived.Test.YtgkmeekefinmkaaR4
namespace Go.Proofs.Ytgkmeekefinmkaa
open Go.RowKit
set_option linter.unusedVariables false
set_option linter.unusedSimpArgs false
theorem rseed_any {w : World} {B q : Nat} {a : LX} (h : RAt w B q a) (hB : B ≤ w.heap.size) (m res : Int) (hm : 0 ≤ m) (h0 : 0 ≤ res) (hr1 : res < 256) (A : Option Addr) (n c : Nat) (xs : List Int) (hx : xs.length = n) (hb : By B 5 w A (u8s xs)) (hu : by8 xs) :
    Calls Try.prog 16 #[.pointer (some ⟨q, 0, none⟩), .int .u8 m, .int .u8 res, .slice A n c] w (RSeedP w B q (seedX a m res xs)) := by
  unfold seedX
  by_cases e0 : m = 0
  · subst e0
    rw [if_pos rfl]
    by_cases hbad : isRes res = false ∨ xs.length < 1 ∨ 20 < xs.length
    · rw [if_pos hbad]
      exact rseed_bad h res A n c (by rw [← hx]; exact hbad)
    · rw [if_neg hbad]
      have hr : isRes res = true := by
        cases hc : isRes res
        · exact absurd (.inl hc) hbad
        · rfl
      have hn1 : 1 ≤ n := by omega
      have hn2 : n ≤ 20 := by omega
      by_cases hz : bits .and .u8 a.shut res = 0
      · rw [if_pos hz]
        exact rseed_free h res A n c hr hn1 hn2 hz
      · rw [if_neg hz]
        have := rseed_zero h hB res A n c xs hx hb hu hr hn1 hn2 hz ⟨xs, res, 0, []⟩ rfl { a with out := some ⟨xs, res, 0, []⟩ } rfl
        exact this
  · rw [if_neg e0]
    by_cases e1 : m = 1
    · subst e1
      rw [if_pos rfl]
      cases ho : a.out with
      | none => exact rseed_one0 h ho res _
      | some d =>
        dsimp only
        by_cases ht : d.told = d.s.length
        · rw [if_pos ht]
          exact rseed_one1 h d ho ht res _
        · rw [if_neg ht]
          exact rseed_one2 h d ho ht res _
    · rw [if_neg e1]
      exact rseed_two h m res _ (by omega)
theorem runlock_any {w : World} {B q : Nat} {a : LX} (h : RAt w B q a) (hB : B ≤ w.heap.size) (left : Int) (A : Option Addr) (n c : Nat) (xs : List Int) (h0 : -9223372036854775808 ≤ left) (h1 : left ≤ 9223372036854775807) (hn : n ≤ maxLen) (hx : xs.length = n) (hr : Rd w w.heap.size A (u8s xs)) (hu : by8 xs) :
    Calls Try.prog 17 #[.pointer (some ⟨q, 0, none⟩), .int .i64 left, .slice A n c] w (RUnP w B q (unlockX a left xs)) := by
  unfold unlockX
  cases ho : a.out with
  | none => exact runlock_no h left A n c h0 h1 hn (fun d hd => by rw [ho] at hd; cases hd)
  | some d =>
    dsimp only
    by_cases hc : d.told = d.s.length ∧ left = ((d.s.length - d.came.length : Nat) : Int) ∧ (xs.length : Int) = min left 6
    · rw [if_pos hc]
      obtain ⟨c1, rfl, c3⟩ := hc
      exact runlock_yes h hB d ho A n c xs hx hr hu c1 _ rfl (by rw [← hx]; exact c3)
    · rw [if_neg hc]
      refine runlock_no h left A n c h0 h1 hn (fun d' hd => ?_)
      rw [ho] at hd
      injection hd with hd
      subst hd
      rw [← hx]
      exact hc
end Go.Proofs.Ytgkmeekefinmkaa
