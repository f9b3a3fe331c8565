/- QueueLists: the walk. -/
import Derived.Test.YtchneedpgpocnaaQ4
namespace Go.Proofs.Ytchneedpgpocnaa
open Go.RowKit
set_option linter.unusedVariables false
set_option linter.unusedSimpArgs false
def f4 : List Bool := [false, false, false, false]
theorem four_cases {j : Nat} (h : j < 4) : j = 0 ∨ j = 1 ∨ j = 2 ∨ j = 3 := by omega
theorem f4_get (j : Nat) (h : j < 4) : f4.getD j false = false := by rcases four_cases h with rfl | rfl | rfl | rfl <;> rfl
theorem f4_set (j : Nat) (h : j < 4) : f4.set j false = f4 := by rcases four_cases h with rfl | rfl | rfl | rfl <;> rfl
theorem f4_at (j : Nat) (h : j < 4) : (f4.set j true).getD j false = true := by rcases four_cases h with rfl | rfl | rfl | rfl <;> rfl
theorem f4_off (j : Nat) (h : j < 4) : (f4.set j true).set j false = f4 := by rcases four_cases h with rfl | rfl | rfl | rfl <;> rfl
theorem f4_ne (i j : Nat) (h : j < 4) (hi : i < 4) (hne : i ≠ j) : (f4.set i true).getD j false = false := by
  rcases four_cases h with rfl | rfl | rfl | rfl <;> rcases four_cases hi with rfl | rfl | rfl | rfl <;> first | rfl | exact absurd rfl hne
theorem f4_ne2 (i j : Nat) (h : j < 4) (hi : i < 4) (hne : i ≠ j) : (f4.set i true).set j false = f4.set i true := by
  rcases four_cases h with rfl | rfl | rfl | rfl <;> rcases four_cases hi with rfl | rfl | rfl | rfl <;> first | rfl | exact absurd rfl hne
/-- What one list lost. -/
def lostL (x : Nat) (b : Bool) : List Bool := if b then f4.set x true else f4
theorem lostL_ne (x y : Nat) (b : Bool) (hx : x < 4) (hy : y < 4) (h : x ≠ y) : (lostL x b).getD y false = false ∧ (lostL x b).set y false = lostL x b := by
  cases b
  · exact ⟨f4_get y hy, f4_set y hy⟩
  · exact ⟨f4_ne x y hy hx h, f4_ne2 x y hy hx h⟩
theorem lostL_eq (x : Nat) (b : Bool) (hx : x < 4) : (lostL x b).getD x false = b ∧ (lostL x b).set x false = f4 ∧ (lostL x b).set x true = f4.set x true := by
  cases b
  · exact ⟨f4_get x hx, f4_set x hx, rfl⟩
  · exact ⟨f4_at x hx, f4_off x hx, by simp [lostL]⟩
/-- A queue of up to K packets, behind i samples of one packet of list x. -/
def stS (K x i : Nat) : Aq := ⟨K, List.replicate (min i K) (0, 1, []), lostL x (decide (K < i))⟩
theorem stS_fits (K x i : Nat) : fitsQ (stS K x i) 1 = decide ((i : Int) < K) := by
  simp only [fitsQ, stS, List.length_replicate]
  rw [Bool.eq_iff_iff]; simp only [decide_eq_true_eq]; omega
theorem stS_put (K x i : Nat) (hx : x < 4) : aput (stS K x i) x [(0, 1, [])] = stS K x (i + 1) := by
  unfold aput
  rw [show ([((0 : Int), (1 : Int), ([] : List Int))].length) = 1 from rfl, stS_fits]
  by_cases h : i < K
  · have h1 : decide ((i : Int) < K) = true := by simp; omega
    have h2 : decide (K < i) = false := by simp; omega
    have h3 : decide (K < i + 1) = false := by simp; omega
    rw [h1, if_pos rfl]
    simp only [stS, h2, h3, (lostL_eq x false hx).1, (lostL_eq x false hx).2.1, bumpK, Bool.false_eq_true, if_false]
    rw [show min i K = i by omega, show min (i + 1) K = i + 1 by omega, ← List.replicate_succ']
    rfl
  · have h1 : decide ((i : Int) < K) = false := by simp; omega
    have h3 : decide (K < i + 1) = true := by simp; omega
    rw [h1]
    simp only [stS, h3, Bool.false_eq_true, if_false, (lostL_eq x _ hx).2.2]
    rw [show min i K = K by omega, show min (i + 1) K = K by omega]
    rfl
set_option maxRecDepth 100000 in
set_option maxHeartbeats 4000000 in
theorem lists_any (a b many most : Int) (w : World) (ha : 0 ≤ a ∧ a < 256) (hb : 0 ≤ b ∧ b < 256) (hm : 0 ≤ many ∧ many < 256) (ht : 0 ≤ most ∧ most < 256) :
    Calls Try.prog 4 #[.int .u8 a, .int .u8 b, .int .u8 many, .int .u8 most] w fun e w' => e = .returned (.bool true) ∧ Below w.heap.size w w' := by
  obtain ⟨x, hx⟩ : ∃ x : Nat, a % 4 = x := ⟨(a % 4).toNat, by omega⟩
  obtain ⟨y, hy⟩ : ∃ y : Nat, b % 4 = y := ⟨(b % 4).toNat, by omega⟩
  obtain ⟨M, hM⟩ : ∃ M : Nat, many % 10 = M := ⟨(many % 10).toNat, by omega⟩
  obtain ⟨K, hK⟩ : ∃ K : Nat, most % 8 + 1 = (K : Int) := ⟨(most % 8 + 1).toNat, by omega⟩
  have hx4 : x < 4 := by omega
  have hy4 : y < 4 := by omega
  have hM9 : M ≤ 9 := by omega
  have hM1 : (M : Int) ≤ many % 10 := by omega
  have hM2 : many % 10 ≤ (M : Int) := by omega
  clear hM
  have hK8 : K ≤ 8 := by omega
  have hK1 : 1 ≤ K := by omega
  by_cases hxy : x = y
  · subst hxy
    go_enter Try.func4, Try.ntmps4
    go_wp2_with fail
    refine (shown_any _).mono ?_
    rintro e w1 ⟨rfl, b1⟩
    go_wp2_with fail
    go_ret
    exact ⟨rfl, b1⟩
  · have hne : ((x : Int) == (y : Int)) = false := by simp; omega
    have hxy' := Lib.hid hxy
    clear hxy
    go_enter Try.func4, Try.ntmps4
    go_wp2_with fail
    refine (shown_any _).mono ?_
    rintro e w1 ⟨rfl, b1⟩
    have z1 := b1.size
    go_wp2_with fail
    refine (new_QK K _ w.heap.size z1 (by omega) (by omega)).mono ?_
    rintro e w2 ⟨q, rfl, Q2, b2⟩
    have b2' := b1.trans b2
    have z2 := b2'.size
    go_wp2_with fail
    go_loopw [52] (fun i wr => ∃ k : Nat, k ≤ M ∧ i = .int .i64 k ∧ QK wr w.heap.size q (stS K x k) ∧ Below w.heap.size w wr) (fun i _ => M - (intOf i).toNat)
    case atStart => exact ⟨0, Nat.zero_le _, rfl, by simpa [stS, lostL, f4] using Q2, b2'⟩
    case round =>
      obtain ⟨k, hk, rfl, Q, br⟩ := hrel
      have zr := br.size
      by_cases hlt : k < M
      · have hlt' : (k : Int) < M := by omega
        have C := Lib.hid (Q.putLit' zr x hx4 [1] 1 (decide ((k : Int) < K)) (stS K x (k + 1)) rfl (by decide) (by decide) (by decide) (by simp [stS]; omega) (stS_fits K x k) (stS_put K x k hx4))
        go_wp2_with fail
        refine C.out.mono ?_
        rintro e w3 ⟨rfl, Q3, b3⟩
        have b3' := br.trans b3
        go_wp2_with fail
        go_roundw
        case rel => exact ⟨k + 1, by omega, by go_num, Q3, b3'⟩
        case measure => simp [intOf]; omega
      · obtain rfl : k = M := by omega
        go_wp2_with fail
        go_loopw [68] (fun i wx => ∃ j : Nat, j ≤ k ∧ i = .int .i64 j ∧ QK wx w.heap.size q ⟨K, List.replicate (min k K - j) (0, 1, []), lostL x (decide (K < k))⟩ ∧ Below w.heap.size w wx) (fun i _ => k - (intOf i).toNat)
        case atStart => exact ⟨0, Nat.zero_le _, rfl, Q, br⟩
        case round =>
          obtain ⟨j, hj, rfl, QJ, bj⟩ := hrel
          have zj := bj.size
          by_cases hjk : j < k
          · have hjk' : (j : Int) < k := by omega
            by_cases hr : 0 < min k K - j
            · obtain ⟨n, hn⟩ : ∃ n, min k K - j = n + 1 := ⟨min k K - j - 1, by omega⟩
              rw [hn, List.replicate_succ] at QJ
              have C := Lib.hid (QJ.next zj (by simp; omega))
              have hn2 : min k K - (j + 1) = n := by omega
              have HN2 := Lib.hid hn2
              clear hn hn2
              go_wp2_with fail
              refine C.out.mono ?_
              rintro e w4 ⟨A4, n4, c4, rfl, -, -, Q4, b4, -⟩
              have b4' := bj.trans b4
              go_wp2_with fail
              go_roundw
              case rel => exact ⟨j + 1, by omega, by go_num, by rw [HN2.out]; exact Q4, b4'⟩
              case measure => simp [intOf]; omega
            · have hn : min k K - j = 0 := by omega
              rw [hn] at QJ
              have C := Lib.hid (QK.next0 QJ zj)
              have hn2 : min k K - (j + 1) = 0 := by omega
              have HN2 := Lib.hid hn2
              clear hn hn2
              go_wp2_with fail
              refine C.out.mono ?_
              rintro e w4 ⟨rfl, Q4, b4, -⟩
              have b4' := bj.trans b4
              go_wp2_with fail
              go_roundw
              case rel => exact ⟨j + 1, by omega, by go_num, by rw [HN2.out]; exact Q4, b4'⟩
              case measure => simp [intOf]; omega
          · obtain rfl : j = k := by omega
            have hn : min j K - j = 0 := by omega
            rw [hn] at QJ
            obtain ⟨L1, L2⟩ := lostL_ne x y (decide (K < j)) hx4 hy4 hxy'.out
            obtain ⟨L3, L4, L5⟩ := lostL_eq x (decide (K < j)) hx4
            have P1 := Lib.hid (QK.putLit' QJ zj y hy4 [2] 1 true ⟨K, [(0, 2, [])], lostL x (decide (K < j))⟩ rfl (by decide) (by decide) (by decide) (by simp) (by simp [fitsQ]; omega) (by
              unfold aput
              rw [if_pos (by simp [fitsQ]; omega)]
              rw [L1, L2]
              rfl))
            clear L1 L2 QJ
            by_cases hKj : K < j
            case' pos => have hdj : decide (K < j) = true := by simpa using hKj
                         have hdj2 : decide ((K : Int) < many % 10) = true := by simp; omega
                         have hdj3 : (K : Int) < many % 10 := by omega
                         rw [hdj] at P1 L3 L4 L5
            case' neg => have hdj : decide (K < j) = false := by simpa using hKj
                         have hdj2 : decide ((K : Int) < many % 10) = false := by simp; omega
                         have hdj3 : many % 10 ≤ (K : Int) := by omega
                         rw [hdj] at P1 L3 L4 L5
            all_goals
              clear hdj
              by_cases hK2 : 1 < K
              · have hd1 : decide (1 < (K : Int)) = true := by simp; omega
                have hK2' : (1 : Int) < K := by omega
                go_wp2_with fail
                refine P1.out.mono ?_
                rintro e w5 ⟨rfl, Q5, b5⟩
                have b5' := bj.trans b5
                have z5 := b5'.size
                go_wp2_with fail
                refine (Q5.putLit' z5 x hx4 [1] 1 true ⟨K, [(0, 2, []), _], f4⟩ rfl (by decide) (by decide) (by decide) (by simp) (by simp [fitsQ]; omega) (by
                  unfold aput
                  rw [if_pos (by simp [fitsQ]; omega)]
                  rw [L3, L4]
                  rfl)).mono ?_
                rintro e w6 ⟨rfl, Q6, b6⟩
                have b6' := b5'.trans b6
                have z6 := b6'.size
                go_wp2_with fail
                refine (Q6.next z6 (by simp)).mono ?_
                rintro e w7 ⟨A7, n7, c7, rfl, -, -, Q7, b7, -⟩
                have b7' := b6'.trans b7
                have z7 := b7'.size
                go_wp2_with fail
                have Q7a := fun o => Q7.below ((Below.refl w7.heap.size w7).alloc (Nat.le_refl _) o)
                refine ((Q7a _).next (by simp; omega) (by simp)).mono ?_
                rintro e w8 ⟨A8, n8, c8, rfl, -, -, Q8, b8, ch8⟩
                have B18 : Blk w8 w7.heap.size 31 #[.int .u8 0, .int .u8 2, .slice A7 n7 c7] := (Blk.new w7 31 _).chg ch8 (by have := Q7.lt.2; omega)
                have b8' := b7'.trans ((((Below.refl _ _).alloc (Nat.le_refl _) _).mono z7).trans b8)
                have z8 := b8'.size
                have b9 : ∀ o, (w8.alloc o).cell? ⟨w7.heap.size, 1, none⟩ = some (.int .u8 2) := fun o => ((B18.alloc o).cell 1).trans rfl
                go_wp2_with fail
                go_ret
                exact ⟨rfl, b8'.alloc z8 _⟩
              · have hd1 : decide (1 < (K : Int)) = false := by simp; omega
                have hK2' : (K : Int) ≤ 1 := by omega
                go_wp2_with fail
                refine P1.out.mono ?_
                rintro e w5 ⟨rfl, Q5, b5⟩
                have b5' := bj.trans b5
                have z5 := b5'.size
                go_wp2_with fail
                refine (Q5.next z5 (by simp)).mono ?_
                rintro e w7 ⟨A7, n7, c7, rfl, -, -, Q7, b7, -⟩
                have b7' := b5'.trans b7
                have z7 := b7'.size
                go_wp2_with fail
                have Q7a := fun o => Q7.below ((Below.refl w7.heap.size w7).alloc (Nat.le_refl _) o)
                refine (QK.next0 (Q7a _) (by simp; omega)).mono ?_
                rintro e w8 ⟨rfl, Q8, b8, bb8⟩
                have B18 : Blk w8 w7.heap.size 31 #[.int .u8 0, .int .u8 2, .slice A7 n7 c7] := Blk.new_below bb8
                have b8' := b7'.trans ((((Below.refl _ _).alloc (Nat.le_refl _) _).mono z7).trans b8)
                have z8 := b8'.size
                have b9 : ∀ o, (w8.alloc o).cell? ⟨w7.heap.size, 1, none⟩ = some (.int .u8 2) := fun o => ((B18.alloc o).cell 1).trans rfl
                go_wp2_with fail
                go_ret
                exact ⟨rfl, b8'.alloc z8 _⟩
end Go.Proofs.Ytchneedpgpocnaa
