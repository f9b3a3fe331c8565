/- The reference's box: have two Ids the same bits, where a mask has 1? -/
import Derived.Test.YtbmkfjgodgmjnaaC7
namespace Go.Proofs.Ytbmkfjgodgmjnaa
open Go.RowKit
set_option linter.unusedVariables false
set_option linter.unusedSimpArgs false
theorem bit_int (m k : Nat) : ((m : Int) / 2 ^ k).tmod 2 = ((m / 2 ^ k % 2 : Nat) : Int) := by
  have h : (m : Int) / 2 ^ k = ((m / 2 ^ k : Nat) : Int) := by simp
  rw [h, Int.tmod_eq_emod_of_nonneg (Int.natCast_nonneg _)]
  omega
theorem bit_of (m k : Nat) : ((m : Int) / 2 ^ k).tmod 2 = if m.testBit k then 1 else 0 := by
  rw [bit_int, Nat.testBit_eq_decide_div_mod_eq]
  by_cases h : m / 2 ^ k % 2 = 1
  · simp [h]
  · rw [if_neg (by simpa using h)]
    omega
/-- Have they the same bits, where the mask has 1? -/
def sameB (m a b : Int) : Bool := bits .and .u32 (bits .xor .u32 a b) m == 0
theorem sameB_nat (m a b : Nat) (hm : m < 2 ^ 32) (ha : a < 2 ^ 32) (hb : b < 2 ^ 32) : sameB m a b = true ↔ ∀ j, j < 32 → m.testBit j = true → a.testBit j = b.testBit j := by
  unfold sameB
  have hx : a ^^^ b < 2 ^ 32 := Nat.xor_lt_two_pow ha hb
  rw [u32_xor_nat a b ha hb, u32_and_nat _ m hx hm, beq_iff_eq, Int.natCast_eq_zero]
  constructor
  · intro h j _ hj
    have := congrArg (fun n => Nat.testBit n j) h
    simp only [Nat.testBit_and, Nat.testBit_xor, hj, Bool.and_true, Nat.zero_testBit] at this
    cases ha' : a.testBit j <;> cases hb' : b.testBit j <;> simp_all
  · intro h
    apply Nat.eq_of_testBit_eq
    intro j
    rw [Nat.testBit_and, Nat.testBit_xor, Nat.zero_testBit]
    rcases Nat.lt_or_ge j 32 with hj | hj
    · cases hmj : m.testBit j
      · simp
      · rw [h j hj hmj]
        simp
    · rw [Nat.testBit_lt_two_pow (Nat.lt_of_lt_of_le hm (Nat.pow_le_pow_right (by decide) hj))]
      simp
set_option maxHeartbeats 1000000 in
theorem same_any (m a b : Int) (hm0 : 0 ≤ m) (hm : m < 4294967296) (ha0 : 0 ≤ a) (ha : a < 4294967296) (hb0 : 0 ≤ b) (hb : b < 4294967296) (w : World) :
    Calls Try.prog 58 #[.int .u32 m, .int .u32 a, .int .u32 b] w fun e w' => e = .returned (.bool (sameB m a b)) ∧ Below w.heap.size w w' := by
  obtain ⟨m, rfl⟩ := Int.eq_ofNat_of_zero_le hm0
  obtain ⟨a, rfl⟩ := Int.eq_ofNat_of_zero_le ha0
  obtain ⟨b, rfl⟩ := Int.eq_ofNat_of_zero_le hb0
  have SB := Lib.hid (sameB_nat m a b (by omega) (by omega) (by omega))
  obtain ⟨s, hs⟩ : ∃ s, sameB m a b = s := ⟨_, rfl⟩
  rw [hs] at SB ⊢
  clear hs
  go_enter Try.func58, Try.ntmps58
  go_wp2_with fail
  go_loopw [7] (fun iv wr => ∃ k : Nat, k ≤ 32 ∧ iv = .int .i64 k ∧ Below w.heap.size w wr ∧ Hid (∀ j, j < k → m.testBit j = true → a.testBit j = b.testBit j)) (fun iv _ => 32 - (intOf iv).toNat)
  case atStart => exact ⟨0, by omega, rfl, Below.refl _ _, Lib.hid fun j hj => by omega⟩
  case round =>
    obtain ⟨k, hk, rfl, hbw, HJ⟩ := hrel
    by_cases h : k < 32
    · have h' : (k : Int) < 32 := by omega
      have b1 := bit_of m k
      have b2 := bit_of a k
      have b3 := bit_of b k
      obtain ⟨x, hx⟩ : ∃ x, m.testBit k = x := ⟨_, rfl⟩
      obtain ⟨y, hy⟩ : ∃ x, a.testBit k = x := ⟨_, rfl⟩
      obtain ⟨z, hz⟩ : ∃ x, b.testBit k = x := ⟨_, rfl⟩
      rw [hx] at b1
      rw [hy] at b2
      rw [hz] at b3
      have HN : Hid ((x = true → y = z) → ∀ j, j < k + 1 → m.testBit j = true → a.testBit j = b.testBit j) := Lib.hid fun hh j hj hmj => by
        rcases Nat.lt_or_ge j k with h1 | h1
        · exact HJ.out j h1 hmj
        · obtain rfl : j = k := by omega
          rw [hy, hz]
          exact hh (by rw [← hx]; exact hmj)
      have HF : Hid (x = true → y ≠ z → s = false) := Lib.hid fun h1 h2 => by
        cases s with
        | false => rfl
        | true =>
          have := SB.out.1 rfl k h (by rw [hx]; exact h1)
          rw [hy, hz] at this
          exact absurd this h2
      clear hx hy hz
      cases x
      · simp only [Bool.false_eq_true, if_false] at b1
        clear b2 b3
        go_wp2_with fail
        refine wp_region_c (fun w' => Below wr.heap.size wr w') (by kernel_rfl) (by kernel_rfl) ((Below.refl _ _).drew) ?_
        repeat (first
          | (refine wpL_skip (by rfl) ?_; try simp only [Act.put, List.setIfInBounds_toArray, List.set_cons_zero, List.set_cons_succ, Nat.reduceAdd])
          | (refine wpL_val (v := ?_) (by rfl) ?_ ?_; rotate_left; · (intro w' hS; go_simp; first | done | with_reducible rfl)
             try simp only [Act.put, List.setIfInBounds_toArray, List.set_cons_zero, List.set_cons_succ, Nat.reduceAdd]))
        refine wpL_done (fun w8 hS => ?_)
        go_wp2_with fail
        go_roundw
        case rel => exact ⟨k + 1, by omega, rfl, hbw.trans (hS.mono hbw.size), Lib.hid (HN.out (by simp))⟩
        case measure => simp [intOf]; omega
      · simp only [if_true] at b1
        cases y <;> cases z
        all_goals
          simp only [Bool.false_eq_true, if_false, if_true] at b2 b3
          go_wp2_with fail
          refine wp_region_c (fun w' => Below wr.heap.size wr w') (by kernel_rfl) (by kernel_rfl) ((Below.refl _ _).drew) ?_
          repeat (first
            | (refine wpL_skip (by rfl) ?_; try simp only [Act.put, List.setIfInBounds_toArray, List.set_cons_zero, List.set_cons_succ, Nat.reduceAdd])
            | (refine wpL_val (v := ?_) (by rfl) ?_ ?_; rotate_left; · (intro w' hS; go_simp; first | done | with_reducible rfl)
               try simp only [Act.put, List.setIfInBounds_toArray, List.set_cons_zero, List.set_cons_succ, Nat.reduceAdd]))
          refine wpL_done (fun w8 hS => ?_)
          go_wp2_with fail
        · go_roundw
          case rel => exact ⟨k + 1, by omega, rfl, hbw.trans (hS.mono hbw.size), Lib.hid (HN.out (by simp))⟩
          case measure => simp [intOf]; omega
        · go_ret
          exact ⟨by have hh := HF.out (by simp) (by simp); simp [hh], hbw.trans (hS.mono hbw.size)⟩
        · go_ret
          exact ⟨by have hh := HF.out (by simp) (by simp); simp [hh], hbw.trans (hS.mono hbw.size)⟩
        · go_roundw
          case rel => exact ⟨k + 1, by omega, rfl, hbw.trans (hS.mono hbw.size), Lib.hid (HN.out (by simp))⟩
          case measure => simp [intOf]; omega
    · obtain rfl : k = 32 := by omega
      go_wp2_with fail
      go_ret
      exact ⟨by rw [SB.out.2 HJ.out]; rfl, hbw⟩
end Go.Proofs.Ytbmkfjgodgmjnaa
