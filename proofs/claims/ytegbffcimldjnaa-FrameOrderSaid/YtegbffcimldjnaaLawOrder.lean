/- FrameOrder: the walk. -/
import Derived.Test.YtegbffcimldjnaaOrder
namespace Go.Proofs.Ytegbffcimldjnaa
open Go.RowKit
set_option linter.unusedVariables false
set_option linter.unusedSimpArgs false
theorem bel_drewN {B : Nat} {w w' : World} (h : Below B w w') (n : Nat) : Below B w (w'.drewN n) := h.trans ⟨rfl, rfl, rfl, Nat.le_refl _, fun _ _ => rfl⟩
theorem rank_rkL (i : Int) (x : Bool) (h0 : 0 ≤ i) (h1 : kn i x = true) (w : World) : Calls Try.prog 14 #[lit0 i x] w fun e w' => e = .returned (.int .u32 (rkL i x)) ∧ Below w.heap.size w w' := by
  obtain ⟨r, c, h⟩ := rank_lit i x h0 h1
  have : r = rkL i x := h
  rw [← this]; exact c w
theorem rkL_lt (i : Int) (x : Bool) (h0 : 0 ≤ i) (h1 : kn i x = true) : 0 ≤ rkL i x ∧ rkL i x < 1073741824 := by
  cases x <;> simp [rkL, kn] at * <;> omega

set_option maxHeartbeats 4000000 in
theorem order_ff (a b : Int) (w : World) (ha : 0 ≤ a) (ha' : a < 4294967296) (hb : 0 ≤ b) (hb' : b < 4294967296) :
    Calls Try.prog 5 #[.int .u32 a, .int .u32 b, .bool false, .bool false] w fun e w' => e = .returned (.bool true) ∧ Below w.heap.size w w' := by
  have k1 : kn (a % 2048) false = true := by simp [kn]; omega
  have k2 : kn (b % 2048) false = true := by simp [kn]; omega
  have c1 := rank_rkL (a % 2048) false (by omega) k1
  have c2 := rank_rkL (b % 2048) false (by omega) k2
  obtain ⟨r0, r1⟩ := rkL_lt (a % 2048) false (by omega) k1
  obtain ⟨s0, s1⟩ := rkL_lt (b % 2048) false (by omega) k2
  have d1 := fun W => bits_f (a % 2048) W (by omega) (by omega)
  have d2 := fun W => bits_f (b % 2048) W (by omega) (by omega)
  generalize rkL (a % 2048) false = R at *
  generalize rkL (b % 2048) false = S at *
  have Z := Lib.hid (order_zero R S r0 r1 s0 s1)
  have C1 := Lib.hid c1
  have C2 := Lib.hid c2
  have D1 := Lib.hid d1
  have D2 := Lib.hid d2
  clear k1 k2 c1 c2 d1 d2 r0 r1 s0 s1
  go_enter Try.func5, Try.ntmps5
  go_wp2_with fail
  refine (shown_any _).mono ?_
  rintro e w1 ⟨rfl, hb1⟩
  have hs1 := hb1.size
  go_wp2_with fail
  refine wp_named fun W hW => ?_
  obtain ⟨B1, B2, hbW⟩ := blk2 hW
  clear hW
  have hr1 := B1.rule
  have hr2 := B2.rule
  have hw0 := bel2 hb1 hbW
  clear hb1 hbW B1 B2 hs1
  go_region_held (fun w' => Below W.heap.size W w') (first | exact (Below.refl _ _).drew | exact bel2 (by assumption) (by assumption))
    (first | (go_at_call 15; (with_reducible refine (D1.out _).mono ?_); rintro e w2 ⟨g1, o1, n1, rfl, p1, hb2⟩) | (go_at_call 15; (with_reducible refine (D2.out _).mono ?_); rintro e w3 ⟨g2, o2, n2, rfl, p2, hb3⟩))
  have hfin : Below W.heap.size W w3 := by assumption
  have P1 := Lib.hid (fun w' hb => p1 w' (bel2 hb3 hb))
  have P2 := Lib.hid p2
  have hr3 := fun w' hb => hr1 w' (bel2 hfin hb)
  have hr4 := fun w' hb => hr2 w' (bel2 hfin hb)
  have hw1 := bel2 hw0 hfin
  clear p1 p2 hr1 hr2 hfin hw0 hb2 hb3
  go_wp2_with fail
  go_loopw [43] (fun i wr => ∃ k : Nat, k ≤ 30 ∧ i = .int .i64 k ∧ R / (2 : Int) ^ (30 - k) = S / (2 : Int) ^ (30 - k) ∧ Below w3.heap.size w3 wr) (fun i _ => 30 - (intOf i).toNat)
  case atStart => exact ⟨0, by omega, rfl, Z.out, Below.refl _ _⟩
  case round =>
    obtain ⟨k, hk, rfl, he, hbr⟩ := hrel
    by_cases hlt : k < 30
    · have hlt' : (k : Int) < 30 := by omega
      have q1 := P1.out _ hbr k hlt
      have q2 := P2.out _ hbr k hlt
      by_cases hd : dgt R k = dgt S k
      · have HN := Lib.hid (order_step R S k hlt he hd)
        have hne : (dgt R k != dgt S k) = false := by rw [hd]; simp
        clear he hd
        generalize dgt R k = x at *
        generalize dgt S k = y at *
        go_wp2_with fail
        go_quiet (fail)
        go_wp2_with fail
        go_roundw
        case rel => exact ⟨k + 1, by omega, by go_num, HN.out, bel_drewN hbr _⟩
        case measure => simp [intOf]; omega
      · have HC := order_cmp R S k hlt he hd
        have hne : (dgt R k != dgt S k) = true := by simp [hd]
        obtain ⟨E, e1⟩ : ∃ E, decide (R < S) = E := ⟨_, rfl⟩
        rw [e1] at HC
        have e2 := HC.symm
        have hq1 := fun w' hb => P1.out w' (bel2 hbr hb) k hlt
        have hq2 := fun w' hb => P2.out w' (bel2 hbr hb) k hlt
        have hq3 := fun w' hb => hr3 w' (bel2 hbr hb)
        have hq4 := fun w' hb => hr4 w' (bel2 hbr hb)
        clear he hd HC
        generalize dgt R k = x at *
        generalize dgt S k = y at *
        clear hr3 hr4
        go_wp2_with fail
        go_quiet (fail)
        go_wp2_with fail
        go_region_held (fun w' => Below wr.heap.size wr w') (first | exact (Below.refl _ _).drew | exact (bel_drewN (Below.refl _ _) _).drew | exact bel2 (by assumption) (by assumption))
          (first | (go_at_call 14; (with_reducible refine (C1.out _).mono ?_); rintro e w5 ⟨rfl, hb5⟩) | (go_at_call 14; (with_reducible refine (C2.out _).mono ?_); rintro e w6 ⟨rfl, hb6⟩))
        have hfin : Below wr.heap.size wr w6 := by assumption
        go_wp2
        go_ret
        exact ⟨rfl, bel2 (bel2 hw1 hbr) hfin⟩
    · obtain rfl : k = 30 := by omega
      have e0 : R = S := by simpa using he
      clear he
      subst e0
      have hq3 := fun w' hb => hr3 w' (bel2 hbr hb)
      have hq4 := fun w' hb => hr4 w' (bel2 hbr hb)
      clear hr3 hr4
      go_wp2_with fail
      go_region_held (fun w' => Below wr.heap.size wr w') (first | exact (Below.refl _ _).drew | exact bel2 (by assumption) (by assumption))
        (first | (go_at_call 14; (with_reducible refine (C1.out _).mono ?_); rintro e w5 ⟨rfl, hb5⟩) | (go_at_call 14; (with_reducible refine (C2.out _).mono ?_); rintro e w6 ⟨rfl, hb6⟩))
      have hfin : Below wr.heap.size wr w6 := by assumption
      go_wp2
      go_ret
      exact ⟨rfl, bel2 (bel2 hw1 hbr) hfin⟩

set_option maxHeartbeats 4000000 in
theorem order_ft (a b : Int) (w : World) (ha : 0 ≤ a) (ha' : a < 4294967296) (hb : 0 ≤ b) (hb' : b < 4294967296) :
    Calls Try.prog 5 #[.int .u32 a, .int .u32 b, .bool false, .bool true] w fun e w' => e = .returned (.bool true) ∧ Below w.heap.size w w' := by
  have k1 : kn (a % 2048) false = true := by simp [kn]; omega
  have k2 : kn (b % 536870912) true = true := by simp [kn]; omega
  have c1 := rank_rkL (a % 2048) false (by omega) k1
  have c2 := rank_rkL (b % 536870912) true (by omega) k2
  obtain ⟨r0, r1⟩ := rkL_lt (a % 2048) false (by omega) k1
  obtain ⟨s0, s1⟩ := rkL_lt (b % 536870912) true (by omega) k2
  have d1 := fun W => bits_f (a % 2048) W (by omega) (by omega)
  have d2 := fun W => bits_t (b % 536870912) W (by omega) (by omega)
  generalize rkL (a % 2048) false = R at *
  generalize rkL (b % 536870912) true = S at *
  have Z := Lib.hid (order_zero R S r0 r1 s0 s1)
  have C1 := Lib.hid c1
  have C2 := Lib.hid c2
  have D1 := Lib.hid d1
  have D2 := Lib.hid d2
  clear k1 k2 c1 c2 d1 d2 r0 r1 s0 s1
  go_enter Try.func5, Try.ntmps5
  go_wp2_with fail
  refine (shown_any _).mono ?_
  rintro e w1 ⟨rfl, hb1⟩
  have hs1 := hb1.size
  go_wp2_with fail
  refine wp_named fun W hW => ?_
  obtain ⟨B1, B2, hbW⟩ := blk2 hW
  clear hW
  have hr1 := B1.rule
  have hr2 := B2.rule
  have hw0 := bel2 hb1 hbW
  clear hb1 hbW B1 B2 hs1
  go_region_held (fun w' => Below W.heap.size W w') (first | exact (Below.refl _ _).drew | exact bel2 (by assumption) (by assumption))
    (first | (go_at_call 15; (with_reducible refine (D1.out _).mono ?_); rintro e w2 ⟨g1, o1, n1, rfl, p1, hb2⟩) | (go_at_call 15; (with_reducible refine (D2.out _).mono ?_); rintro e w3 ⟨g2, o2, n2, rfl, p2, hb3⟩))
  have hfin : Below W.heap.size W w3 := by assumption
  have P1 := Lib.hid (fun w' hb => p1 w' (bel2 hb3 hb))
  have P2 := Lib.hid p2
  have hr3 := fun w' hb => hr1 w' (bel2 hfin hb)
  have hr4 := fun w' hb => hr2 w' (bel2 hfin hb)
  have hw1 := bel2 hw0 hfin
  clear p1 p2 hr1 hr2 hfin hw0 hb2 hb3
  go_wp2_with fail
  go_loopw [43] (fun i wr => ∃ k : Nat, k ≤ 30 ∧ i = .int .i64 k ∧ R / (2 : Int) ^ (30 - k) = S / (2 : Int) ^ (30 - k) ∧ Below w3.heap.size w3 wr) (fun i _ => 30 - (intOf i).toNat)
  case atStart => exact ⟨0, by omega, rfl, Z.out, Below.refl _ _⟩
  case round =>
    obtain ⟨k, hk, rfl, he, hbr⟩ := hrel
    by_cases hlt : k < 30
    · have hlt' : (k : Int) < 30 := by omega
      have q1 := P1.out _ hbr k hlt
      have q2 := P2.out _ hbr k hlt
      by_cases hd : dgt R k = dgt S k
      · have HN := Lib.hid (order_step R S k hlt he hd)
        have hne : (dgt R k != dgt S k) = false := by rw [hd]; simp
        clear he hd
        generalize dgt R k = x at *
        generalize dgt S k = y at *
        go_wp2_with fail
        go_quiet (fail)
        go_wp2_with fail
        go_roundw
        case rel => exact ⟨k + 1, by omega, by go_num, HN.out, bel_drewN hbr _⟩
        case measure => simp [intOf]; omega
      · have HC := order_cmp R S k hlt he hd
        have hne : (dgt R k != dgt S k) = true := by simp [hd]
        obtain ⟨E, e1⟩ : ∃ E, decide (R < S) = E := ⟨_, rfl⟩
        rw [e1] at HC
        have e2 := HC.symm
        have hq1 := fun w' hb => P1.out w' (bel2 hbr hb) k hlt
        have hq2 := fun w' hb => P2.out w' (bel2 hbr hb) k hlt
        have hq3 := fun w' hb => hr3 w' (bel2 hbr hb)
        have hq4 := fun w' hb => hr4 w' (bel2 hbr hb)
        clear he hd HC
        generalize dgt R k = x at *
        generalize dgt S k = y at *
        clear hr3 hr4
        go_wp2_with fail
        go_quiet (fail)
        go_wp2_with fail
        go_region_held (fun w' => Below wr.heap.size wr w') (first | exact (Below.refl _ _).drew | exact (bel_drewN (Below.refl _ _) _).drew | exact bel2 (by assumption) (by assumption))
          (first | (go_at_call 14; (with_reducible refine (C1.out _).mono ?_); rintro e w5 ⟨rfl, hb5⟩) | (go_at_call 14; (with_reducible refine (C2.out _).mono ?_); rintro e w6 ⟨rfl, hb6⟩))
        have hfin : Below wr.heap.size wr w6 := by assumption
        go_wp2
        go_ret
        exact ⟨rfl, bel2 (bel2 hw1 hbr) hfin⟩
    · obtain rfl : k = 30 := by omega
      have e0 : R = S := by simpa using he
      clear he
      subst e0
      have hq3 := fun w' hb => hr3 w' (bel2 hbr hb)
      have hq4 := fun w' hb => hr4 w' (bel2 hbr hb)
      clear hr3 hr4
      go_wp2_with fail
      go_region_held (fun w' => Below wr.heap.size wr w') (first | exact (Below.refl _ _).drew | exact bel2 (by assumption) (by assumption))
        (first | (go_at_call 14; (with_reducible refine (C1.out _).mono ?_); rintro e w5 ⟨rfl, hb5⟩) | (go_at_call 14; (with_reducible refine (C2.out _).mono ?_); rintro e w6 ⟨rfl, hb6⟩))
      have hfin : Below wr.heap.size wr w6 := by assumption
      go_wp2
      go_ret
      exact ⟨rfl, bel2 (bel2 hw1 hbr) hfin⟩

set_option maxHeartbeats 4000000 in
theorem order_tf (a b : Int) (w : World) (ha : 0 ≤ a) (ha' : a < 4294967296) (hb : 0 ≤ b) (hb' : b < 4294967296) :
    Calls Try.prog 5 #[.int .u32 a, .int .u32 b, .bool true, .bool false] w fun e w' => e = .returned (.bool true) ∧ Below w.heap.size w w' := by
  have k1 : kn (a % 536870912) true = true := by simp [kn]; omega
  have k2 : kn (b % 2048) false = true := by simp [kn]; omega
  have c1 := rank_rkL (a % 536870912) true (by omega) k1
  have c2 := rank_rkL (b % 2048) false (by omega) k2
  obtain ⟨r0, r1⟩ := rkL_lt (a % 536870912) true (by omega) k1
  obtain ⟨s0, s1⟩ := rkL_lt (b % 2048) false (by omega) k2
  have d1 := fun W => bits_t (a % 536870912) W (by omega) (by omega)
  have d2 := fun W => bits_f (b % 2048) W (by omega) (by omega)
  generalize rkL (a % 536870912) true = R at *
  generalize rkL (b % 2048) false = S at *
  have Z := Lib.hid (order_zero R S r0 r1 s0 s1)
  have C1 := Lib.hid c1
  have C2 := Lib.hid c2
  have D1 := Lib.hid d1
  have D2 := Lib.hid d2
  clear k1 k2 c1 c2 d1 d2 r0 r1 s0 s1
  go_enter Try.func5, Try.ntmps5
  go_wp2_with fail
  refine (shown_any _).mono ?_
  rintro e w1 ⟨rfl, hb1⟩
  have hs1 := hb1.size
  go_wp2_with fail
  refine wp_named fun W hW => ?_
  obtain ⟨B1, B2, hbW⟩ := blk2 hW
  clear hW
  have hr1 := B1.rule
  have hr2 := B2.rule
  have hw0 := bel2 hb1 hbW
  clear hb1 hbW B1 B2 hs1
  go_region_held (fun w' => Below W.heap.size W w') (first | exact (Below.refl _ _).drew | exact bel2 (by assumption) (by assumption))
    (first | (go_at_call 15; (with_reducible refine (D1.out _).mono ?_); rintro e w2 ⟨g1, o1, n1, rfl, p1, hb2⟩) | (go_at_call 15; (with_reducible refine (D2.out _).mono ?_); rintro e w3 ⟨g2, o2, n2, rfl, p2, hb3⟩))
  have hfin : Below W.heap.size W w3 := by assumption
  have P1 := Lib.hid (fun w' hb => p1 w' (bel2 hb3 hb))
  have P2 := Lib.hid p2
  have hr3 := fun w' hb => hr1 w' (bel2 hfin hb)
  have hr4 := fun w' hb => hr2 w' (bel2 hfin hb)
  have hw1 := bel2 hw0 hfin
  clear p1 p2 hr1 hr2 hfin hw0 hb2 hb3
  go_wp2_with fail
  go_loopw [43] (fun i wr => ∃ k : Nat, k ≤ 30 ∧ i = .int .i64 k ∧ R / (2 : Int) ^ (30 - k) = S / (2 : Int) ^ (30 - k) ∧ Below w3.heap.size w3 wr) (fun i _ => 30 - (intOf i).toNat)
  case atStart => exact ⟨0, by omega, rfl, Z.out, Below.refl _ _⟩
  case round =>
    obtain ⟨k, hk, rfl, he, hbr⟩ := hrel
    by_cases hlt : k < 30
    · have hlt' : (k : Int) < 30 := by omega
      have q1 := P1.out _ hbr k hlt
      have q2 := P2.out _ hbr k hlt
      by_cases hd : dgt R k = dgt S k
      · have HN := Lib.hid (order_step R S k hlt he hd)
        have hne : (dgt R k != dgt S k) = false := by rw [hd]; simp
        clear he hd
        generalize dgt R k = x at *
        generalize dgt S k = y at *
        go_wp2_with fail
        go_quiet (fail)
        go_wp2_with fail
        go_roundw
        case rel => exact ⟨k + 1, by omega, by go_num, HN.out, bel_drewN hbr _⟩
        case measure => simp [intOf]; omega
      · have HC := order_cmp R S k hlt he hd
        have hne : (dgt R k != dgt S k) = true := by simp [hd]
        obtain ⟨E, e1⟩ : ∃ E, decide (R < S) = E := ⟨_, rfl⟩
        rw [e1] at HC
        have e2 := HC.symm
        have hq1 := fun w' hb => P1.out w' (bel2 hbr hb) k hlt
        have hq2 := fun w' hb => P2.out w' (bel2 hbr hb) k hlt
        have hq3 := fun w' hb => hr3 w' (bel2 hbr hb)
        have hq4 := fun w' hb => hr4 w' (bel2 hbr hb)
        clear he hd HC
        generalize dgt R k = x at *
        generalize dgt S k = y at *
        clear hr3 hr4
        go_wp2_with fail
        go_quiet (fail)
        go_wp2_with fail
        go_region_held (fun w' => Below wr.heap.size wr w') (first | exact (Below.refl _ _).drew | exact (bel_drewN (Below.refl _ _) _).drew | exact bel2 (by assumption) (by assumption))
          (first | (go_at_call 14; (with_reducible refine (C1.out _).mono ?_); rintro e w5 ⟨rfl, hb5⟩) | (go_at_call 14; (with_reducible refine (C2.out _).mono ?_); rintro e w6 ⟨rfl, hb6⟩))
        have hfin : Below wr.heap.size wr w6 := by assumption
        go_wp2
        go_ret
        exact ⟨rfl, bel2 (bel2 hw1 hbr) hfin⟩
    · obtain rfl : k = 30 := by omega
      have e0 : R = S := by simpa using he
      clear he
      subst e0
      have hq3 := fun w' hb => hr3 w' (bel2 hbr hb)
      have hq4 := fun w' hb => hr4 w' (bel2 hbr hb)
      clear hr3 hr4
      go_wp2_with fail
      go_region_held (fun w' => Below wr.heap.size wr w') (first | exact (Below.refl _ _).drew | exact bel2 (by assumption) (by assumption))
        (first | (go_at_call 14; (with_reducible refine (C1.out _).mono ?_); rintro e w5 ⟨rfl, hb5⟩) | (go_at_call 14; (with_reducible refine (C2.out _).mono ?_); rintro e w6 ⟨rfl, hb6⟩))
      have hfin : Below wr.heap.size wr w6 := by assumption
      go_wp2
      go_ret
      exact ⟨rfl, bel2 (bel2 hw1 hbr) hfin⟩

set_option maxHeartbeats 4000000 in
theorem order_tt (a b : Int) (w : World) (ha : 0 ≤ a) (ha' : a < 4294967296) (hb : 0 ≤ b) (hb' : b < 4294967296) :
    Calls Try.prog 5 #[.int .u32 a, .int .u32 b, .bool true, .bool true] w fun e w' => e = .returned (.bool true) ∧ Below w.heap.size w w' := by
  have k1 : kn (a % 536870912) true = true := by simp [kn]; omega
  have k2 : kn (b % 536870912) true = true := by simp [kn]; omega
  have c1 := rank_rkL (a % 536870912) true (by omega) k1
  have c2 := rank_rkL (b % 536870912) true (by omega) k2
  obtain ⟨r0, r1⟩ := rkL_lt (a % 536870912) true (by omega) k1
  obtain ⟨s0, s1⟩ := rkL_lt (b % 536870912) true (by omega) k2
  have d1 := fun W => bits_t (a % 536870912) W (by omega) (by omega)
  have d2 := fun W => bits_t (b % 536870912) W (by omega) (by omega)
  generalize rkL (a % 536870912) true = R at *
  generalize rkL (b % 536870912) true = S at *
  have Z := Lib.hid (order_zero R S r0 r1 s0 s1)
  have C1 := Lib.hid c1
  have C2 := Lib.hid c2
  have D1 := Lib.hid d1
  have D2 := Lib.hid d2
  clear k1 k2 c1 c2 d1 d2 r0 r1 s0 s1
  go_enter Try.func5, Try.ntmps5
  go_wp2_with fail
  refine (shown_any _).mono ?_
  rintro e w1 ⟨rfl, hb1⟩
  have hs1 := hb1.size
  go_wp2_with fail
  refine wp_named fun W hW => ?_
  obtain ⟨B1, B2, hbW⟩ := blk2 hW
  clear hW
  have hr1 := B1.rule
  have hr2 := B2.rule
  have hw0 := bel2 hb1 hbW
  clear hb1 hbW B1 B2 hs1
  go_region_held (fun w' => Below W.heap.size W w') (first | exact (Below.refl _ _).drew | exact bel2 (by assumption) (by assumption))
    (first | (go_at_call 15; (with_reducible refine (D1.out _).mono ?_); rintro e w2 ⟨g1, o1, n1, rfl, p1, hb2⟩) | (go_at_call 15; (with_reducible refine (D2.out _).mono ?_); rintro e w3 ⟨g2, o2, n2, rfl, p2, hb3⟩))
  have hfin : Below W.heap.size W w3 := by assumption
  have P1 := Lib.hid (fun w' hb => p1 w' (bel2 hb3 hb))
  have P2 := Lib.hid p2
  have hr3 := fun w' hb => hr1 w' (bel2 hfin hb)
  have hr4 := fun w' hb => hr2 w' (bel2 hfin hb)
  have hw1 := bel2 hw0 hfin
  clear p1 p2 hr1 hr2 hfin hw0 hb2 hb3
  go_wp2_with fail
  go_loopw [43] (fun i wr => ∃ k : Nat, k ≤ 30 ∧ i = .int .i64 k ∧ R / (2 : Int) ^ (30 - k) = S / (2 : Int) ^ (30 - k) ∧ Below w3.heap.size w3 wr) (fun i _ => 30 - (intOf i).toNat)
  case atStart => exact ⟨0, by omega, rfl, Z.out, Below.refl _ _⟩
  case round =>
    obtain ⟨k, hk, rfl, he, hbr⟩ := hrel
    by_cases hlt : k < 30
    · have hlt' : (k : Int) < 30 := by omega
      have q1 := P1.out _ hbr k hlt
      have q2 := P2.out _ hbr k hlt
      by_cases hd : dgt R k = dgt S k
      · have HN := Lib.hid (order_step R S k hlt he hd)
        have hne : (dgt R k != dgt S k) = false := by rw [hd]; simp
        clear he hd
        generalize dgt R k = x at *
        generalize dgt S k = y at *
        go_wp2_with fail
        go_quiet (fail)
        go_wp2_with fail
        go_roundw
        case rel => exact ⟨k + 1, by omega, by go_num, HN.out, bel_drewN hbr _⟩
        case measure => simp [intOf]; omega
      · have HC := order_cmp R S k hlt he hd
        have hne : (dgt R k != dgt S k) = true := by simp [hd]
        obtain ⟨E, e1⟩ : ∃ E, decide (R < S) = E := ⟨_, rfl⟩
        rw [e1] at HC
        have e2 := HC.symm
        have hq1 := fun w' hb => P1.out w' (bel2 hbr hb) k hlt
        have hq2 := fun w' hb => P2.out w' (bel2 hbr hb) k hlt
        have hq3 := fun w' hb => hr3 w' (bel2 hbr hb)
        have hq4 := fun w' hb => hr4 w' (bel2 hbr hb)
        clear he hd HC
        generalize dgt R k = x at *
        generalize dgt S k = y at *
        clear hr3 hr4
        go_wp2_with fail
        go_quiet (fail)
        go_wp2_with fail
        go_region_held (fun w' => Below wr.heap.size wr w') (first | exact (Below.refl _ _).drew | exact (bel_drewN (Below.refl _ _) _).drew | exact bel2 (by assumption) (by assumption))
          (first | (go_at_call 14; (with_reducible refine (C1.out _).mono ?_); rintro e w5 ⟨rfl, hb5⟩) | (go_at_call 14; (with_reducible refine (C2.out _).mono ?_); rintro e w6 ⟨rfl, hb6⟩))
        have hfin : Below wr.heap.size wr w6 := by assumption
        go_wp2
        go_ret
        exact ⟨rfl, bel2 (bel2 hw1 hbr) hfin⟩
    · obtain rfl : k = 30 := by omega
      have e0 : R = S := by simpa using he
      clear he
      subst e0
      have hq3 := fun w' hb => hr3 w' (bel2 hbr hb)
      have hq4 := fun w' hb => hr4 w' (bel2 hbr hb)
      clear hr3 hr4
      go_wp2_with fail
      go_region_held (fun w' => Below wr.heap.size wr w') (first | exact (Below.refl _ _).drew | exact bel2 (by assumption) (by assumption))
        (first | (go_at_call 14; (with_reducible refine (C1.out _).mono ?_); rintro e w5 ⟨rfl, hb5⟩) | (go_at_call 14; (with_reducible refine (C2.out _).mono ?_); rintro e w6 ⟨rfl, hb6⟩))
      have hfin : Below wr.heap.size wr w6 := by assumption
      go_wp2
      go_ret
      exact ⟨rfl, bel2 (bel2 hw1 hbr) hfin⟩

theorem order_any (a b : Int) (x y : Bool) (w : World) (ha : 0 ≤ a) (ha' : a < 4294967296) (hb : 0 ≤ b) (hb' : b < 4294967296) :
    Calls Try.prog 5 #[.int .u32 a, .int .u32 b, .bool x, .bool y] w fun e w' => e = .returned (.bool true) ∧ Below w.heap.size w w' := by
  cases x <;> cases y
  · exact order_ff a b w ha ha' hb hb'
  · exact order_ft a b w ha ha' hb hb'
  · exact order_tf a b w ha ha' hb hb'
  · exact order_tt a b w ha ha' hb hb'
end Go.Proofs.Ytegbffcimldjnaa
