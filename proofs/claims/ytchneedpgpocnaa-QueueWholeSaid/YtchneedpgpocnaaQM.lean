/- Same: of rows of one packet. -/
import Derived.Test.YtchneedpgpocnaaQ6
import Derived.Deep.QuietTactic
import Derived.BigQuiet
namespace Go.Proofs.Ytchneedpgpocnaa
open Go.RowKit
set_option linter.unusedVariables false
set_option linter.unusedSimpArgs false
set_option maxHeartbeats 4000000 in
theorem same_one {w : World} {A1 A2 X1 X2 : Option Addr} {c1 c2 n d1 d2 : Nat} {k cd : Int} {xs : List Int} (r1 : Rd w w.heap.size A1 [.int .u8 k, .int .u8 cd, .slice X1 n d1]) (r2 : Rd w w.heap.size A2 [.int .u8 k, .int .u8 cd, .slice X2 n d2]) (hn : xs.length = n) (h1 : Rd w w.heap.size X1 (u8s xs)) (h2 : Rd w w.heap.size X2 (u8s xs)) :
    Calls Try.prog 11 #[.slice A1 1 c1, .slice A2 1 c2] w fun e w' => e = .returned (.bool true) ∧ Below w.heap.size w w' := by
  obtain ⟨b1, o1, rfl, -, q1⟩ := r1 (by simp)
  obtain ⟨b2, o2, rfl, -, q2⟩ := r2 (by simp)
  have p0 := q1 0 _ rfl
  have p1 := q1 1 _ rfl
  have p2 := q1 2 _ rfl
  have s0 := q2 0 _ rfl
  have s1 := q2 1 _ rfl
  have s2 := q2 2 _ rfl
  simp only [Nat.add_zero] at p0 s0
  have v1 := h1.conv (P := Try.prog) (src := 22) (dst := 9) (e := 5) (c := d1) rfl rfl rfl (Nat.le_refl _) hn.symm
  have v2 := h2.conv (P := Try.prog) (src := 22) (dst := 9) (e := 5) (c := d2) rfl rfl rfl (Nat.le_refl _) hn.symm
  have v1 := fun nq => v1 _ (bel_drewN (Below.refl w.heap.size w) nq)
  have v2 := fun nq => v2 _ (bel_drewN (Below.refl w.heap.size w) nq)
  clear q1 q2 h1 h2 r1 r2
  go_enter Try.func11, Try.ntmps11
  go_wp2_with fail
  go_loopw [5] (fun i wr => (i = .int .i64 0 ∧ wr = w) ∨ (i = .int .i64 1 ∧ Below w.heap.size w wr)) (fun i _ => 1 - (intOf i).toNat)
  case atStart => exact .inl ⟨rfl, rfl⟩
  case round =>
    rcases hrel with ⟨rfl, rfl⟩ | ⟨rfl, hb⟩
    · go_wp2_with fail
      go_quiet (fail)
      go_wp2_with fail
      go_roundw
      case rel => exact .inr ⟨by go_num, bel_drewN (Below.refl _ _) nq⟩
      case measure => simp [intOf]
    · go_wp2_with fail
      go_ret
      exact ⟨rfl, hb⟩
end Go.Proofs.Ytchneedpgpocnaa
