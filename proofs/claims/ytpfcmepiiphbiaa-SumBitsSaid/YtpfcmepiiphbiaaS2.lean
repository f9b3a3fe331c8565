/- sum.Of of the kinds, the walks (printed by gen_of.py). -/
import Derived.Test.YtpfcmepiiphbiaaS2a
import Derived.Test.YtpfcmepiiphbiaaS2b
import Derived.Laws.EntriesVeiled
namespace Go.Proofs.Ytpfcmepiiphbiaa
open Go.RowKit
set_option linter.unusedVariables false
set_option linter.unusedSimpArgs false
theorem ways_no (k : Int) (w : World) (hk : k < 1 ∨ 9 < k) : Calls Try.prog 37 #[.int .u8 k] w fun e w' => e = .returned (.tuple #[.agg way0, .bool false]) ∧ Below w.heap.size w w' := by
  have B0 := Blk.new w 65 way0
  have e1 : (k == 1) = false := by rw [beq_eq_false_iff_ne]; omega
  have e2 : (k == 2) = false := by rw [beq_eq_false_iff_ne]; omega
  have e3 : (k == 3) = false := by rw [beq_eq_false_iff_ne]; omega
  have e4 : (k == 4) = false := by rw [beq_eq_false_iff_ne]; omega
  have e5 : (k == 5) = false := by rw [beq_eq_false_iff_ne]; omega
  have e6 : (k == 6) = false := by rw [beq_eq_false_iff_ne]; omega
  have e7 : (k == 7) = false := by rw [beq_eq_false_iff_ne]; omega
  have e8 : (k == 8) = false := by rw [beq_eq_false_iff_ne]; omega
  have e9 : (k == 9) = false := by rw [beq_eq_false_iff_ne]; omega
  clear hk
  unfold way0 at B0
  go_enter Try.func37, Try.ntmps37
  go_wp2_with (refine wpList_build rfl 65 _ rfl (by kernel_rfl) ?_; refine wpList_storeB rfl 65 (.tmp 2) (.tmp 34) rfl w.heap.size 65 _ way0 (by kernel_rfl) (by kernel_rfl) B0 rfl (by kernel_rfl) (by simp [way0, Value.oneCell']) ?_; intro w2 B2 hg2)
  refine bodyPost_ret (v := .tuple #[.agg way0, .bool false]) (results_blk2 Try.results37 _ w2 w.heap.size 65 way0 _ rfl B2 Try.underlying65 rfl (by kernel_rfl)) rfl ?_
  exact ⟨rfl, (bl1 w _).grown hg2 (by simp) (fun k hk => by injection hk with hk; omega)⟩
theorem of_no (k : Nat) (A : Option Addr) (n c : Nat) (xs : List Int) (big : Bool) (w : World) (hk : k < 1 ∨ 9 < k) :
    Calls Try.prog 28 #[.int .u8 k, .slice A n c, .bool big] w fun e w' => e = .returned (.tuple #[.int .u32 ((sumV k xs big).1 : Nat), .int .i64 (sumV k xs big).2]) ∧ Below w.heap.size w w' := by
  have HV : Hid (sumV k xs big = (0, 1)) := by
    show _ = _
    unfold sumV
    rw [if_pos (by unfold wdK; rw [if_neg (by omega), if_neg (by omega), if_neg (by omega)])]
  have WN := Lib.hid (ways_no k w (by omega))
  unfold way0 at WN
  clear hk
  go_enter Try.func28, Try.ntmps28
  go_wp2_with fail
  refine WN.out.mono ?_
  rintro e w1 ⟨rfl, hb1⟩
  have hz1 := hb1.size
  go_wp2_with fail
  go_ret2
  rw [HV.out]
  exact ⟨rfl, hb1.alloc hz1 _⟩
/-- sum.Of. -/
def OfP (w : World) (k : Nat) (xs : List Int) (big : Bool) (e : Ending) (w' : World) : Prop := e = .returned (.tuple #[.int .u32 ((sumV k xs big).1 : Nat), .int .i64 (sumV k xs big).2]) ∧ Below w.heap.size w w'
theorem of_any (k : Nat) (A : Option Addr) (n c : Nat) (xs : List Int) (big : Bool) (w : World) (hx : xs.length = n) (hr : Rd w w.heap.size A (u8s xs)) (hA : A = none → n = 0 ∧ c = 0) (hn : n ≤ c) (hl : n ≤ 100000) (hc : c ≤ maxLen) (hu : b8 xs) :
    Calls Try.prog 28 #[.int .u8 k, .slice A n c, .bool big] w (OfP w k xs big) := by
  by_cases hk : k < 1 ∨ 9 < k
  · exact of_no k A n c xs big w hk
  · obtain rfl | rfl | rfl | rfl | rfl | rfl | rfl | rfl | rfl : k = 1 ∨ k = 2 ∨ k = 3 ∨ k = 4 ∨ k = 5 ∨ k = 6 ∨ k = 7 ∨ k = 8 ∨ k = 9 := by omega
    · exact of_1 A n c xs big w hx hr hA hn hl hc hu
    · exact of_2 A n c xs big w hx hr hA hn hl hc hu
    · exact of_3 A n c xs big w hx hr hA hn hl hc hu
    · exact of_4 A n c xs big w hx hr hA hn hl hc hu
    · exact of_5 A n c xs big w hx hr hA hn hl hc hu
    · exact of_6 A n c xs big w hx hr hA hn hl hc hu
    · exact of_7 A n c xs big w hx hr hA hn hl hc hu
    · exact of_8 A n c xs big w hx hr hA hn hl hc hu
    · exact of_9 A n c xs big w hx hr hA hn hl hc hu
end Go.Proofs.Ytpfcmepiiphbiaa
