/- SymTells: the walk. -/
import Derived.Test.YtmcmlglacblkiaaY5
namespace Go.Proofs.Ytmcmlglacblkiaa
open Go.RowKit
set_option linter.unusedVariables false
set_option linter.unusedSimpArgs false
set_option maxRecDepth 100000 in
set_option maxHeartbeats 8000000 in
theorem tells_any (s : Sy) (v : Int) (A : Option Addr) (n c : Nat) (bs : List Int) (w : World) (h : s.wf) (hv0 : -9223372036854775808 ≤ v) (hv1 : v ≤ 9223372036854775807)
    (hx : bs.length = n) (hn : n ≤ c) (hc : c ≤ maxLen) (hr : Rd w w.heap.size A (u8s bs)) (hA : A = none → n = 0 ∧ c = 0) (hu : b8 bs) :
    Calls Try.prog 3 #[s.val, .int .i64 v, .slice A n c] w fun e w' => e = .returned (.bool true) ∧ Below w.heap.size w w' := by
  have hw := cut_wf s h
  obtain ⟨x, hxc⟩ : ∃ x, cut s = x := ⟨_, rfl⟩
  rw [hxc] at hw
  have FO := Lib.hid (few_one s h)
  unfold OneP at FO
  rw [hxc] at FO
  obtain ⟨N, hN⟩ : ∃ N, min n 10 = N := ⟨_, rfl⟩
  obtain ⟨b, hb, hrb, hub⟩ : ∃ b, b.length = N ∧ Rd w w.heap.size A (u8s b) ∧ b8 b := ⟨bs.take N, by rw [List.length_take]; omega, hr.take' N, fun y hy => hu y (List.mem_of_mem_take hy)⟩
  have MY := Lib.hid fun (W : World) => may_any x W hw
  have RMY := Lib.hid fun (W : World) => rmay_any x W hw
  have PT := Lib.hid fun (W : World) => sput_any x v W hw hv0 hv1
  have RPT := Lib.hid fun (W : World) => srput_any x v W hw hv0 hv1
  have TK := Lib.hid fun (W : World) (hW : Below w.heap.size w W) => stake_any x A N c b W hw hb ((hrb.below hW).more hW.size) (by omega) (by omega) hc hub
  have RTK := Lib.hid fun (W : World) (hW : Below w.heap.size w W) => srtake_any x A N c b W hw hb ((hrb.below hW).more hW.size) (by omega) (by omega) hc hub
  obtain ⟨t1, t2, ht⟩ : ∃ t1 t2, x.takeV b = (t1, t2) := ⟨_, _, rfl⟩
  rw [ht] at TK RTK
  obtain ⟨M, hM⟩ : ∃ M, x.may = M := ⟨_, rfl⟩
  rw [hM] at MY RMY
  obtain ⟨o, ho⟩ : ∃ o, x.putV v = o := ⟨_, rfl⟩
  rw [ho] at PT RPT
  have BS := Blk.new w 24 s.cs
  have hb0 := bl1 w (.cells s.cs 24)
  have hz0 := hb0.size
  have BL := Blk.new (w.alloc (.cells s.cs 24)) 24 s.cs
  rw [World.size_alloc] at BL
  have cS := BS.cell
  have hb00 := hb0.alloc hz0 (.cells s.cs 24)
  have hmin : min (n : Int) 10 = (N : Int) := by omega
  have hNc : (N : Int) ≤ c := by omega
  have hNn : (N : Int) ≤ n := by omega
  clear ht hM ho hxc hx hr hu hA hb hrb hub hw h hN
  obtain ⟨nm, ar, at_, wd, bg, sg, mu, ad⟩ := s
  obtain ⟨nm', ar', at', wd', bg', sg', mu', ad'⟩ := x
  go_enter Try.func3, Try.ntmps3
  go_wp2_with fail
  refine (FO.out _ _ BL).mono ?_
  rintro e w1 ⟨b1, o1, d1, rfl, hcc, hb1⟩
  have c0 := hcc 0 _ rfl
  have c1 := hcc 1 _ rfl
  have c2 := hcc 2 _ rfl
  have c3 := hcc 3 _ rfl
  have c4 := hcc 4 _ rfl
  have c5 := hcc 5 _ rfl
  have c6 := hcc 6 _ rfl
  have c7 := hcc 7 _ rfl
  simp only [Nat.add_zero] at c0
  have hb2 := hb00.trans (hb1.mono hb00.size)
  have hz2 := hb2.size
  clear hcc cS
  go_upto_region 2 with fail
  refine wp_named fun W hW => ?_
  obtain ⟨BW, hbW⟩ := blk1 hW
  clear hW c0 c1 c2 c3 c4 c5 c6 c7
  have hb3 := hb2.trans (hbW.mono hz2)
  have cW := BW.cell
  have HB3 := hb3.size
  have RW := BW.rule
  have TK2 := Lib.hid fun (wq : World) (hq : Below W.heap.size W wq) => TK.out wq (hb3.trans (hq.mono HB3))
  have RTK2 := Lib.hid fun (wq : World) (hq : Below W.heap.size W wq) => RTK.out wq (hb3.trans (hq.mono HB3))
  clear TK RTK hbW BL hb00 hb0 BS hz0 hz2
  by_cases h10 : n ≤ 10
  · have h10I : (n : Int) ≤ 10 := by omega
    obtain rfl : N = n := by omega
    clear h10
    cases o with
    | none =>
      go_wp2_with fail
      refine (PT.out _).mono ?_
      rintro e w2 ⟨rfl, hb4⟩
      have cW2 := (BW.below hb4).cell
      go_wp2_with fail
      refine (RPT.out _).mono ?_
      rintro e w3 ⟨rfl, hb5⟩
      have hb6 : Below W.heap.size W w3 := bel2 hb4 hb5
      clear cW2 cW
      go_wp2_with fail
      have BW3 := BW.below hb6
      have RW3 := BW3.rule
      have hz6 := hb6.size
      go_region_held (fun w' => Below w3.heap.size w3 w') (first | exact (Below.refl _ _).drew | exact Below.trans (by assumption) (Below.mono (by assumption) (Below.size (by assumption))))
        (first | (go_at_call 12; (with_reducible refine (TK2.out _ (Below.trans hb6 (Below.mono (by assumption) hz6))).mono ?_); rintro e w4 ⟨rfl, hb7⟩))
      go_upto_region 5 with fail
      refine wp_named fun wa hw4 => ?_
      have hb9 : Below w3.heap.size w3 wa := by rw [hw4]; assumption
      have hb10 : Below W.heap.size W wa := hb6.trans (hb9.mono hz6)
      have hz10 := hb10.size
      have RW4 := (BW.below hb10).rule
      clear hw4
      go_region_held (fun w' => Below wa.heap.size wa w') (first | exact (Below.refl _ _).drew | exact Below.trans (by assumption) (Below.mono (by assumption) (Below.size (by assumption))))
        (first | (go_at_call 13; (with_reducible refine (RTK2.out _ (Below.trans hb10 (Below.mono (by assumption) hz10))).mono ?_); rintro e w4 ⟨rfl, hb7⟩))
      go_upto_region 6 with fail
      refine wp_named fun w5 hw5 => ?_
      have hbq1 : Below wa.heap.size wa w5 := by rw [hw5]; assumption
      have hbq0 : Below w3.heap.size w3 w5 := hb9.trans (hbq1.mono hb9.size)
      have hbq : Below W.heap.size W w5 := Below.trans hb6 (Below.mono hbq0 hz6)
      clear RW RW3 RW4 BW3
      clear hw5
      have BQ := BW.below hbq
      have RQ := BQ.rule
      have hzq := hbq.size
      have CVN : ∀ w', Below w5.heap.size w5 w' → (convert 25 9 (.slice none 0 0)).run Try.prog w' = .ok (.string (bstr [])) w' := Rd.conv (B := 0) (xs := []) Try.underlying25 Try.underlying5 Try.underlying9 Rd.nil (Nat.zero_le _) rfl
      go_region_held (fun w' => Below w5.heap.size w5 w') (first | exact (Below.refl _ _).drew | exact Below.trans (by assumption) (Below.mono (by assumption) (Below.size (by assumption))))
        (first | (go_at_call 14; (with_reducible refine (shown18_any _).mono ?_); rintro e w6 ⟨rfl, hb8⟩) | (go_at_call 15; (with_reducible refine (MY.out _).mono ?_); rintro e w6 ⟨rfl, hb8⟩) | (go_at_call 16; (with_reducible refine (RMY.out _).mono ?_); rintro e w6 ⟨rfl, hb8⟩))
      all_goals
        go_wp2_with fail
        go_ret
        exact ⟨rfl, hb3.trans ((Below.trans hbq (Below.mono (by assumption) hzq)).mono HB3)⟩
    | some bs' =>
      go_wp2_with fail
      refine (PT.out _).mono ?_
      rintro e w2 ⟨A2, d2, rfl, ho2, hb4⟩
      have cW2 := (BW.below hb4).cell
      go_wp2_with fail
      refine (RPT.out _).mono ?_
      rintro e w3 ⟨A3, d3, rfl, ho3, hb5⟩
      have hb6 : Below W.heap.size W w3 := bel2 hb4 hb5
      have ho4 := ho2.below hb5
      clear cW2 ho2 cW
      go_wp2_with fail
      have BW3 := BW.below hb6
      have RW3 := BW3.rule
      have hz6 := hb6.size
      go_region_held (fun w' => Below w3.heap.size w3 w') (first | exact (Below.refl _ _).drew | exact Below.trans (by assumption) (Below.mono (by assumption) (Below.size (by assumption))))
        (first | (go_at_call 12; (with_reducible refine (TK2.out _ (Below.trans hb6 (Below.mono (by assumption) hz6))).mono ?_); rintro e w4 ⟨rfl, hb7⟩))
      go_upto_region 5 with fail
      refine wp_named fun wa hw4 => ?_
      have hb9 : Below w3.heap.size w3 wa := by rw [hw4]; assumption
      have hb10 : Below W.heap.size W wa := hb6.trans (hb9.mono hz6)
      have hz10 := hb10.size
      have RW4 := (BW.below hb10).rule
      clear hw4
      go_region_held (fun w' => Below wa.heap.size wa w') (first | exact (Below.refl _ _).drew | exact Below.trans (by assumption) (Below.mono (by assumption) (Below.size (by assumption))))
        (first | (go_at_call 13; (with_reducible refine (RTK2.out _ (Below.trans hb10 (Below.mono (by assumption) hz10))).mono ?_); rintro e w4 ⟨rfl, hb7⟩))
      go_upto_region 6 with fail
      refine wp_named fun w5 hw5 => ?_
      have hbq1 : Below wa.heap.size wa w5 := by rw [hw5]; assumption
      have hbq0 : Below w3.heap.size w3 w5 := hb9.trans (hbq1.mono hb9.size)
      have hbq : Below W.heap.size W w5 := Below.trans hb6 (Below.mono hbq0 hz6)
      clear RW RW3 RW4 BW3
      clear hw5
      have BQ := BW.below hbq
      have RQ := BQ.rule
      have hzq := hbq.size
      have hbq3 : Below w3.heap.size w3 w5 := hbq0
      have CV1 := (ho4.below hbq3).conv (P := Try.prog) (src := 25) (dst := 9) (e := 5) Try.underlying25 Try.underlying5 Try.underlying9 (xs := bs') (n := bs'.length) rfl
      have CV2 := (ho3.below hbq3).conv (P := Try.prog) (src := 25) (dst := 9) (e := 5) Try.underlying25 Try.underlying5 Try.underlying9 (xs := bs') (n := bs'.length) rfl
      go_region_held (fun w' => Below w5.heap.size w5 w') (first | exact (Below.refl _ _).drew | exact Below.trans (by assumption) (Below.mono (by assumption) (Below.size (by assumption))))
        (first | (go_at_call 14; (with_reducible refine (shown18_any _).mono ?_); rintro e w6 ⟨rfl, hb8⟩) | (go_at_call 15; (with_reducible refine (MY.out _).mono ?_); rintro e w6 ⟨rfl, hb8⟩) | (go_at_call 16; (with_reducible refine (RMY.out _).mono ?_); rintro e w6 ⟨rfl, hb8⟩))
      all_goals
        go_wp2_with fail
        go_ret
        exact ⟨rfl, hb3.trans ((Below.trans hbq (Below.mono (by assumption) hzq)).mono HB3)⟩
  · have h10I : (10 : Int) < n := by omega
    obtain rfl : N = 10 := by omega
    clear h10
    cases o with
    | none =>
      go_wp2_with fail
      refine (PT.out _).mono ?_
      rintro e w2 ⟨rfl, hb4⟩
      have cW2 := (BW.below hb4).cell
      go_wp2_with fail
      refine (RPT.out _).mono ?_
      rintro e w3 ⟨rfl, hb5⟩
      have hb6 : Below W.heap.size W w3 := bel2 hb4 hb5
      clear cW2 cW
      go_wp2_with fail
      have BW3 := BW.below hb6
      have RW3 := BW3.rule
      have hz6 := hb6.size
      go_region_held (fun w' => Below w3.heap.size w3 w') (first | exact (Below.refl _ _).drew | exact Below.trans (by assumption) (Below.mono (by assumption) (Below.size (by assumption))))
        (first | (go_at_call 12; (with_reducible refine (TK2.out _ (Below.trans hb6 (Below.mono (by assumption) hz6))).mono ?_); rintro e w4 ⟨rfl, hb7⟩))
      go_upto_region 5 with fail
      refine wp_named fun wa hw4 => ?_
      have hb9 : Below w3.heap.size w3 wa := by rw [hw4]; assumption
      have hb10 : Below W.heap.size W wa := hb6.trans (hb9.mono hz6)
      have hz10 := hb10.size
      have RW4 := (BW.below hb10).rule
      clear hw4
      go_region_held (fun w' => Below wa.heap.size wa w') (first | exact (Below.refl _ _).drew | exact Below.trans (by assumption) (Below.mono (by assumption) (Below.size (by assumption))))
        (first | (go_at_call 13; (with_reducible refine (RTK2.out _ (Below.trans hb10 (Below.mono (by assumption) hz10))).mono ?_); rintro e w4 ⟨rfl, hb7⟩))
      go_upto_region 6 with fail
      refine wp_named fun w5 hw5 => ?_
      have hbq1 : Below wa.heap.size wa w5 := by rw [hw5]; assumption
      have hbq0 : Below w3.heap.size w3 w5 := hb9.trans (hbq1.mono hb9.size)
      have hbq : Below W.heap.size W w5 := Below.trans hb6 (Below.mono hbq0 hz6)
      clear RW RW3 RW4 BW3
      clear hw5
      have BQ := BW.below hbq
      have RQ := BQ.rule
      have hzq := hbq.size
      have CVN : ∀ w', Below w5.heap.size w5 w' → (convert 25 9 (.slice none 0 0)).run Try.prog w' = .ok (.string (bstr [])) w' := Rd.conv (B := 0) (xs := []) Try.underlying25 Try.underlying5 Try.underlying9 Rd.nil (Nat.zero_le _) rfl
      go_region_held (fun w' => Below w5.heap.size w5 w') (first | exact (Below.refl _ _).drew | exact Below.trans (by assumption) (Below.mono (by assumption) (Below.size (by assumption))))
        (first | (go_at_call 14; (with_reducible refine (shown18_any _).mono ?_); rintro e w6 ⟨rfl, hb8⟩) | (go_at_call 15; (with_reducible refine (MY.out _).mono ?_); rintro e w6 ⟨rfl, hb8⟩) | (go_at_call 16; (with_reducible refine (RMY.out _).mono ?_); rintro e w6 ⟨rfl, hb8⟩))
      all_goals
        go_wp2_with fail
        go_ret
        exact ⟨rfl, hb3.trans ((Below.trans hbq (Below.mono (by assumption) hzq)).mono HB3)⟩
    | some bs' =>
      go_wp2_with fail
      refine (PT.out _).mono ?_
      rintro e w2 ⟨A2, d2, rfl, ho2, hb4⟩
      have cW2 := (BW.below hb4).cell
      go_wp2_with fail
      refine (RPT.out _).mono ?_
      rintro e w3 ⟨A3, d3, rfl, ho3, hb5⟩
      have hb6 : Below W.heap.size W w3 := bel2 hb4 hb5
      have ho4 := ho2.below hb5
      clear cW2 ho2 cW
      go_wp2_with fail
      have BW3 := BW.below hb6
      have RW3 := BW3.rule
      have hz6 := hb6.size
      go_region_held (fun w' => Below w3.heap.size w3 w') (first | exact (Below.refl _ _).drew | exact Below.trans (by assumption) (Below.mono (by assumption) (Below.size (by assumption))))
        (first | (go_at_call 12; (with_reducible refine (TK2.out _ (Below.trans hb6 (Below.mono (by assumption) hz6))).mono ?_); rintro e w4 ⟨rfl, hb7⟩))
      go_upto_region 5 with fail
      refine wp_named fun wa hw4 => ?_
      have hb9 : Below w3.heap.size w3 wa := by rw [hw4]; assumption
      have hb10 : Below W.heap.size W wa := hb6.trans (hb9.mono hz6)
      have hz10 := hb10.size
      have RW4 := (BW.below hb10).rule
      clear hw4
      go_region_held (fun w' => Below wa.heap.size wa w') (first | exact (Below.refl _ _).drew | exact Below.trans (by assumption) (Below.mono (by assumption) (Below.size (by assumption))))
        (first | (go_at_call 13; (with_reducible refine (RTK2.out _ (Below.trans hb10 (Below.mono (by assumption) hz10))).mono ?_); rintro e w4 ⟨rfl, hb7⟩))
      go_upto_region 6 with fail
      refine wp_named fun w5 hw5 => ?_
      have hbq1 : Below wa.heap.size wa w5 := by rw [hw5]; assumption
      have hbq0 : Below w3.heap.size w3 w5 := hb9.trans (hbq1.mono hb9.size)
      have hbq : Below W.heap.size W w5 := Below.trans hb6 (Below.mono hbq0 hz6)
      clear RW RW3 RW4 BW3
      clear hw5
      have BQ := BW.below hbq
      have RQ := BQ.rule
      have hzq := hbq.size
      have hbq3 : Below w3.heap.size w3 w5 := hbq0
      have CV1 := (ho4.below hbq3).conv (P := Try.prog) (src := 25) (dst := 9) (e := 5) Try.underlying25 Try.underlying5 Try.underlying9 (xs := bs') (n := bs'.length) rfl
      have CV2 := (ho3.below hbq3).conv (P := Try.prog) (src := 25) (dst := 9) (e := 5) Try.underlying25 Try.underlying5 Try.underlying9 (xs := bs') (n := bs'.length) rfl
      go_region_held (fun w' => Below w5.heap.size w5 w') (first | exact (Below.refl _ _).drew | exact Below.trans (by assumption) (Below.mono (by assumption) (Below.size (by assumption))))
        (first | (go_at_call 14; (with_reducible refine (shown18_any _).mono ?_); rintro e w6 ⟨rfl, hb8⟩) | (go_at_call 15; (with_reducible refine (MY.out _).mono ?_); rintro e w6 ⟨rfl, hb8⟩) | (go_at_call 16; (with_reducible refine (RMY.out _).mono ?_); rintro e w6 ⟨rfl, hb8⟩))
      all_goals
        go_wp2_with fail
        go_ret
        exact ⟨rfl, hb3.trans ((Below.trans hbq (Below.mono (by assumption) hzq)).mono HB3)⟩
end Go.Proofs.Ytmcmlglacblkiaa
