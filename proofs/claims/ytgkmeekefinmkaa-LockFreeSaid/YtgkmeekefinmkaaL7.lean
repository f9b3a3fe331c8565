/- LockFree: the walk. -/
import Derived.Test.YtgkmeekefinmkaaL6
namespace Go.Proofs.Ytgkmeekefinmkaa
open Go.RowKit
set_option linter.unusedVariables false
set_option linter.unusedSimpArgs false
theorem m13_and (x r : Int) (h0 : 0 ≤ x) (h1 : x < 256) (h : isRes r = true) : bits .and .u8 (m13 x) r = bits .and .u8 x r := by
  have k2 : ∀ k : Fin 256, bits .and .u8 (m13 k.val) 1 = bits .and .u8 k.val 1 ∧ bits .and .u8 (m13 k.val) 4 = bits .and .u8 k.val 4 ∧ bits .and .u8 (m13 k.val) 8 = bits .and .u8 k.val 8 := by decide +kernel
  have := fin256 (P := fun x => bits .and .u8 (m13 x) 1 = bits .and .u8 x 1 ∧ bits .and .u8 (m13 x) 4 = bits .and .u8 x 4 ∧ bits .and .u8 (m13 x) 8 = bits .and .u8 x 8) k2 x h0 h1
  rcases (isRes_iff r).1 h with rfl | rfl | rfl
  · exact this.1
  · exact this.2.1
  · exact this.2.2
set_option maxRecDepth 100000 in
set_option maxHeartbeats 4000000 in
theorem free_any (res ask mode : Int) (A : Option Addr) (n c : Nat) (xs : List Int) (w : World) (hr0 : 0 ≤ res) (hr1 : res < 256) (ha0 : 0 ≤ ask) (ha1 : ask < 256) (hm0 : 0 ≤ mode) (hm1 : mode < 256)
    (hx : xs.length = n) (hn : n ≤ c) (hc : c ≤ maxLen) (hr : Rd w w.heap.size A (u8s xs)) (hA : A = none → n = 0 ∧ c = 0) (hu : by8 xs) :
    Calls Try.prog 4 #[.int .u8 res, .int .u8 ask, .int .u8 mode, .slice A n c] w fun e w' => e = .returned (.bool true) ∧ Below w.heap.size w w' := by
  unfold maxLen at hc
  obtain ⟨N, hN⟩ : ∃ N, min n 30 = N := ⟨_, rfl⟩
  have hNn : N ≤ n := by omega
  have hNc : N ≤ c := by omega
  have hN30 : N ≤ 30 := by omega
  obtain ⟨ys, hys⟩ : ∃ ys, xs.take N = ys := ⟨_, rfl⟩
  have hyl : ys.length = N := by rw [← hys, List.length_take]; omega
  have hry : Rd w w.heap.size A (u8s ys) := by rw [← hys]; exact hr.take' N
  have huy : by8 ys := fun x hx => hu x (List.mem_of_mem_take (by rw [hys]; exact hx))
  obtain ⟨m0, m1⟩ := m13_bd res hr0 hr1
  have hm : bits .and .u8 res 13 = m13 res := rfl
  have HMA := Lib.hid (m13_and res ask hr0 hr1)
  have LN := Lib.hid (fun W hW => lnew_any res W w.heap.size hW hr0 hr1)
  clear hr hx hu hys
  generalize m13 res = m at *
  have hmm : (m != m) = false := by simp
  go_enter Try.func4, Try.ntmps4
  go_wp2_with fail
  refine (shown_any w).mono ?_
  rintro e w1 ⟨rfl, hb1⟩
  have hz1 := hb1.size
  go_upto_region 2 with fail
  go_cut [10] (fun s wx => s = .slice A N c ∧ wx = w1)
  case first =>
    by_cases h30 : n ≤ 30
    · obtain rfl : N = n := by omega
      go_wp2_with fail
      go_meet
      case rel => exact ⟨rfl, rfl⟩
    · have h30' : 30 < n := by omega
      obtain rfl : N = 30 := by omega
      go_wp2_with fail
      go_meet
      case rel => exact ⟨rfl, rfl⟩
  case rest =>
    obtain ⟨rfl, rfl⟩ := hcut
    clear hN
    go_wp2_with fail
    refine (LN.out wc hz1).mono ?_
    rintro e w2 ⟨rfl, hL, hb2⟩
    have hz2 := hb2.size
    go_wp2_with fail
    refine (locked_any hL).mono ?_
    rintro e w' ⟨rfl, rfl⟩
    have b2 := hb1.trans (hb2.mono hz1)
    have SD := Lib.hid (seed_any hL (by omega) mode ask hm0 ha0 ha1 A N c ys hyl (By.of_rd (hry.below b2) (by omega)) huy)
    clear LN hL
    rcases hsx : seedX ⟨m, m, none⟩ mode ask ys with ⟨a', nn, pp, er⟩
    rw [hsx] at SD
    have HSX := Lib.hid hsx
    clear hsx
    go_wp2_with fail
    refine SD.out.mono ?_
    rintro e w3 ⟨A3, m3, c3, rfl, hm3, ho3, hL3, hc3⟩
    have hz3 := hc3.size
    have hb3 : Below w.heap.size w w3 := b2.trans (hc3.below (by omega))
    go_upto_region 7 with fail
    go_cut [15] (fun v wx => v = .bool (isRes ask) ∧ wx = w3)
    case first =>
      clear SD hL3 hmm
      by_cases e1 : ask = 1
      · subst e1
        go_wp2_with fail
        go_meet
        case rel => exact ⟨rfl, rfl⟩
      · by_cases e2 : ask = 4
        · subst e2
          go_wp2_with fail
          go_meet
          case rel => exact ⟨rfl, rfl⟩
        · by_cases e3 : ask = 8
          · subst e3
            go_wp2_with fail
            go_meet
            case rel => exact ⟨rfl, rfl⟩
          · have f1 : (ask == 1) = false := by simpa using e1
            have f2 : (ask == 4) = false := by simpa using e2
            have f3 : (ask == 8) = false := by simpa using e3
            have hi : isRes ask = false := by simp [isRes, e1, e2, e3]
            have HI := Lib.hid hi
            clear hi
            go_wp2_with fail
            go_meet
            case rel => exact ⟨by rw [HI.out], rfl⟩
    case rest =>
      obtain ⟨rfl, rfl⟩ := hcut
      clear SD
      have hsx := HSX.out
      unfold seedX at hsx
      by_cases e1 : mode = 1
      · subst e1
        simp only [show ((1 : Int) = 0) = False by simp, if_false, if_true, Prod.mk.injEq] at hsx
        obtain ⟨rfl, rfl, rfl, rfl⟩ := hsx
        obtain rfl : m3 = 0 := hm3.symm
        clear HMA hmm HSX
        go_wp2_with fail
        go_ret
        exact ⟨rfl, hb3⟩
      · by_cases e0 : mode = 0
        · subst e0
          rw [if_pos rfl] at hsx
          by_cases hbad : isRes ask = false ∨ ys.length < 1 ∨ 20 < ys.length
          · rw [if_pos hbad] at hsx
            simp only [Prod.mk.injEq] at hsx
            obtain ⟨rfl, rfl, rfl, rfl⟩ := hsx
            obtain rfl : m3 = 0 := hm3.symm
            rw [hyl] at hbad
            clear HMA hmm HSX hyl
            rcases hbad with hb | hb | hb
            · rw [hb]
              clear hb
              go_wp2_with fail
              go_ret
              exact ⟨rfl, hb3⟩
            · obtain rfl : N = 0 := by omega
              generalize isRes ask = q
              cases q
              all_goals
                go_wp2_with fail
                go_ret
                exact ⟨rfl, hb3⟩
            · have hbI : (20 : Int) < N := by omega
              have hbJ : (1 : Int) ≤ N := by omega
              generalize isRes ask = q
              cases q
              all_goals
                go_wp2_with fail
                go_ret
                exact ⟨rfl, hb3⟩
          · rw [if_neg hbad] at hsx
            have hone : isRes ask = true := by
              cases hq : isRes ask
              · exact absurd (.inl hq) hbad
              · rfl
            have hn1 : (1 : Int) ≤ N := by rw [← hyl]; omega
            have hn2 : (N : Int) ≤ 20 := by rw [← hyl]; omega
            have hma := HMA.out hone
            rw [hone]
            rw [hma] at hsx
            obtain ⟨z, hz⟩ : ∃ z, bits .and .u8 res ask = z := ⟨_, rfl⟩
            rw [hz] at hsx
            clear HMA HSX hbad hone hma
            by_cases hz0 : z = 0
            · subst hz0
              rw [if_pos rfl] at hsx
              simp only [Prod.mk.injEq] at hsx
              obtain ⟨rfl, rfl, rfl, rfl⟩ := hsx
              obtain rfl : m3 = 0 := hm3.symm
              have U := Lib.hid (unlock_no hL3 0 none 0 0 (by decide) (by decide) (by decide) (fun d hd => by cases hd))
              clear hmm hyl
              go_wp2_with fail
              refine U.out.mono ?_
              rintro e w4 ⟨rfl, hL4, hc4⟩
              go_wp2_with fail
              go_ret
              exact ⟨rfl, hb3.trans (hc4.below (by omega))⟩
            · rw [if_neg hz0] at hsx
              simp only [Prod.mk.injEq] at hsx
              obtain ⟨rfl, rfl, rfl, rfl⟩ := hsx
              have hz1 : (z == 0) = false := by simpa using hz0
              have LK := Lib.hid (locked_any hL3)
              dsimp only at LK
              rw [hyl]
              clear hyl hz0
              go_wp2_with fail
              refine LK.out.mono ?_
              rintro e w' ⟨rfl, rfl⟩
              go_wp2_with fail
              go_ret
              exact ⟨rfl, hb3⟩
        · simp only [if_neg e0, if_neg e1, Prod.mk.injEq] at hsx
          obtain ⟨rfl, rfl, rfl, rfl⟩ := hsx
          obtain rfl : m3 = 0 := hm3.symm
          have hm2 : 1 < mode := by omega
          have f1 : (mode == 0) = false := by simpa using e0
          have f2 : (mode == 1) = false := by simpa using e1
          clear HMA hmm HSX e0 e1
          go_wp2_with fail
          go_ret
          exact ⟨rfl, hb3⟩
end Go.Proofs.Ytgkmeekefinmkaa
