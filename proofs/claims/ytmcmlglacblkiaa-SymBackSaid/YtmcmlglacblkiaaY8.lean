/- SymBack: the walk (printed by gen_back18.py). -/
import Derived.Test.YtmcmlglacblkiaaY5
import Derived.Test.YtmcmlglacblkiaaY7
namespace Go.Proofs.Ytmcmlglacblkiaa
open Go.RowKit
set_option linter.unusedVariables false
set_option linter.unusedSimpArgs false
set_option maxRecDepth 100000 in
set_option maxHeartbeats 8000000 in
theorem back_any (s : Sy) (A : Option Addr) (n c : Nat) (bs : List Int) (v : Int) (w : World) (h : s.wf) (hv0 : -9223372036854775808 ≤ v) (hv1 : v ≤ 9223372036854775807)
    (hx : bs.length = n) (hn : n ≤ c) (hc : c ≤ maxLen) (hr : Rd w w.heap.size A (u8s bs)) (hA : A = none → n = 0 ∧ c = 0) (hu : b8 bs) :
    Calls Try.prog 4 #[s.val, .slice A n c, .int .i64 v] w fun e w' => e = .returned (.bool true) ∧ Below w.heap.size w w' := by
  have hw := cut_wf s h
  obtain ⟨x, hxc⟩ : ∃ x, cut s = x := ⟨_, rfl⟩
  rw [hxc] at hw
  have FO := Lib.hid (few_one s h)
  unfold OneP at FO
  rw [hxc] at FO
  obtain ⟨N, hN⟩ : ∃ N, min n 10 = N := ⟨_, rfl⟩
  obtain ⟨b, hb, hrb, hub⟩ : ∃ b, b.length = N ∧ Rd w w.heap.size A (u8s b) ∧ b8 b := ⟨bs.take N, by rw [List.length_take]; omega, hr.take' N, fun y hy => hu y (List.mem_of_mem_take hy)⟩
  have MY := Lib.hid fun (W : World) => may_any x W hw
  have PT := Lib.hid fun (W : World) => sput_any x v W hw hv0 hv1
  have TK := Lib.hid fun (W : World) (hW : Below w.heap.size w W) => stake_any x A N c b W hw hb ((hrb.below hW).more hW.size) (by omega) (by omega) hc hub
  have CVB := Lib.hid fun (W : World) (hW : Below w.heap.size w W) => run_conv (P := Try.prog) Try.underlying25 Try.underlying5 Try.underlying9 A b N c _ W (hrb.below hW) hb.symm
  obtain ⟨t1, t2, ht⟩ : ∃ t1 t2, x.takeV b = (t1, t2) := ⟨_, _, rfl⟩
  rw [ht] at TK
  have HB1 : Hid (t2 = 0 → x.putV t1 = some b) := fun h0 => back1 x b hub t1 (by rw [ht, h0]) ⟨hw.ad0, hw.ad1⟩
  have ht1 : -9223372036854775808 ≤ t1 ∧ t1 ≤ 9223372036854775807 := by
    have hmm := ht
    unfold Sy.takeV at hmm
    split at hmm
    case isFalse => injection hmm with h1 h2; omega
    case isTrue hm =>
    split at hmm
    case isFalse => injection hmm with h1 h2; omega
    case isTrue hl =>
      injection hmm with h1 h2
      have hmi := (may_iff x).1 hm
      have hnb := num_bd x b hub hmi.2.2 hl
      have hmb := mul_bd x.mu (x.num b) 16777216 4294967296 hmi.2.1.2.1 hmi.2.1.2.2 hnb.2.2.1 hnb.2.2.2 (by decide) (by decide)
      have := hw.ad0
      have := hw.ad1
      omega
  have PT1 := Lib.hid fun (W : World) => sput_any x t1 W hw ht1.1 ht1.2
  have HB2 := Lib.hid (back2 x v)
  have TK2 := Lib.hid fun (W : World) (B : Nat) (A' : Option Addr) (m d : Nat) (l : List Int) (hl : l.length = m) (ho : Own W B 5 1 A' m d (u8s l)) (h8 : b8 l) (hm : m ≤ 100000) => stake_any x A' m d l W hw hl ho.rd ho.2.1 hm ho.2.2.1 h8
  obtain ⟨o, ho⟩ : ∃ o, x.putV v = o := ⟨_, rfl⟩
  rw [ho] at PT HB2
  have BS := Blk.new w 24 s.cs
  have hb0 := bl1 w (.cells s.cs 24)
  have hz0 := hb0.size
  have hmin : min (n : Int) 10 = (N : Int) := by omega
  have hNc : (N : Int) ≤ c := by omega
  have HWD : Hid (∀ l : List Int, o = some l → (l.length : Int) = x.wd ∧ l.length ≤ 4) := fun l hl => by
    have h2 := HB2.out l hl
    have hmi := (may_iff x).1 h2.2.2.1
    exact ⟨h2.2.1, by omega⟩
  have HN := Lib.hid hN
  clear ht ho hxc hx hr hu hA hb hrb hub hw h hN ht1
  obtain ⟨nm, ar, at_, wd, bg, sg, mu, ad⟩ := s
  obtain ⟨nm', ar', at', wd', bg', sg', mu', ad'⟩ := x
  go_enter Try.func4, Try.ntmps4
  go_wp2_with fail
  refine (shown18_any _).mono ?_
  rintro e w0 ⟨rfl, hbs⟩
  have BS0 := BS.below hbs
  have cS := BS0.cell
  have hb00 := hb0.trans (hbs.mono hz0)
  have hz00 := hb00.size
  have BL := Blk.new w0 24 #[.string nm, .int .u8 ar, .int .u32 at_, .int .i64 wd, .bool bg, .bool sg, .int .i32 mu, .int .i32 ad]
  have hb000 := hb00.alloc hz00 (.cells #[.string nm, .int .u8 ar, .int .u32 at_, .int .i64 wd, .bool bg, .bool sg, .int .i32 mu, .int .i32 ad] 24)
  go_wp2_with fail
  refine (FO.out _ _ BL).mono ?_
  rintro e w1 ⟨b1, o1, d1, rfl, hcc, hb1⟩
  have c0 := hcc 0 _ rfl
  have c1 := hcc 1 _ rfl
  have c2 := hcc 2 _ rfl
  have c3 := hcc 3 _ rfl
  have c4 := hcc 4 _ rfl
  have c5 := hcc 5 _ rfl
  have c6 := hcc 6 _ rfl
  have c7 := hcc 7 _ rfl
  simp only [Nat.add_zero] at c0
  have hb2 := hb000.trans (hb1.mono hb000.size)
  have hz2 := hb2.size
  clear hcc cS
  go_upto_region 3 with fail
  refine wp_named fun W hW => ?_
  obtain ⟨BW, hbW⟩ := blk1 hW
  clear hW c0 c1 c2 c3 c4 c5 c6 c7
  have hb3 := hb2.trans (hbW.mono hz2)
  have HB3 := hb3.size
  clear hb000 hb00 hz00 hbs BS0 BL hb0 hz0 BS hbW hb1 hb2 hz2
  go_cut [9] (fun v wx => v = .slice A N c ∧ wx = W)
  case first =>
    by_cases h10 : n ≤ 10
    · have h10I : (n : Int) ≤ 10 := by omega
      obtain rfl : N = n := by have := HN.out; omega
      clear h10
      go_wp2_with fail
      go_meet
      case rel => exact ⟨rfl, rfl⟩
    · have h10I : (10 : Int) < n := by omega
      obtain rfl : N = 10 := by have := HN.out; omega
      clear h10
      go_wp2_with fail
      go_meet
      case rel => exact ⟨rfl, rfl⟩
  case rest =>
    obtain ⟨rfl, rfl⟩ := hcut
    have cW := BW.cell
    clear hmin
    go_wp2_with fail
    refine (TK.out _ hb3).mono ?_
    rintro e w2 ⟨rfl, hb4⟩
    have BW2 := BW.below hb4
    have cW2 := BW2.cell
    have hb5 := hb3.trans (hb4.mono HB3)
    have HB5 := hb5.size
    clear cW BW hb3 HB3 hb4
    by_cases h0 : t2 = 0
    · have hp1 := HB1.out h0
      subst h0
      rw [hp1] at PT1
      clear hp1 HB1
      go_wp2_with fail
      refine (PT1.out _).mono ?_
      rintro e w3 ⟨A3, d3, rfl, ho3, hb6⟩
      have BW3 := BW2.below hb6
      have cW3 := BW3.cell
      have hb7 := hb5.trans (hb6.mono HB5)
      have HB7 := hb7.size
      have CV1 := CVB.out _ hb7
      have CV2 := ho3.conv (P := Try.prog) (src := 25) (dst := 9) (e := 5) Try.underlying25 Try.underlying5 Try.underlying9 (xs := b) (n := b.length) rfl w3 (Below.refl _ _)
      clear cW2 BW2 hb5 HB5 hb6
      go_wp2_with fail
      refine (PT.out _).mono ?_
      cases o with
      | none =>
        rintro e w4 ⟨rfl, hb8⟩
        have hb9 := hb7.trans (hb8.mono HB7)
        clear cW3
        go_wp2_with fail
        go_ret
        exact ⟨rfl, hb9⟩
      | some l =>
        rintro e w4 ⟨A4, d4, rfl, ho4, hb8⟩
        have hb9 := hb7.trans (hb8.mono HB7)
        have HB9 := hb9.size
        have BW4 := BW3.below hb8
        have cW4 := BW4.cell
        obtain ⟨hk1, hk2, hk3, hk4⟩ := HB2.out l rfl
        obtain ⟨hq1, hq2⟩ := HWD.out l rfl
        have TK3 := Lib.hid (TK2.out w4 _ A4 l.length d4 l rfl ho4 hk4 (by omega))
        rw [hk1] at TK3
        rw [hk3] at MY
        obtain ⟨m, hm⟩ : ∃ m, l.length = m := ⟨_, rfl⟩
        rw [hm] at TK3 hq1 hq2
        subst hq1
        clear hk1 hk2 hk3 hk4 cW3 BW3
        rw [hm]
        go_wp2_with fail
        refine TK3.out.mono ?_
        rintro e w5 ⟨rfl, hb10⟩
        have cW5 := (BW4.below hb10).cell
        have hb11 := hb9.trans (hb10.mono HB9)
        clear cW4 hm
        go_wp2_with fail
        refine (MY.out _).mono ?_
        rintro e w6 ⟨rfl, hb12⟩
        have hb13 := hb11.trans (hb12.mono hb11.size)
        go_wp2_with fail
        go_ret
        exact ⟨rfl, hb13⟩
    · have h0b : (t2 == 0) = false := beq_eq_false_iff_ne.2 h0
      have BW3 := BW2
      have cW3 := cW2
      have hb7 := hb5
      have HB7 := HB5
      clear h0 cW2 BW2 hb5 HB5 HB1
      go_wp2_with fail
      refine (PT.out _).mono ?_
      cases o with
      | none =>
        rintro e w4 ⟨rfl, hb8⟩
        have hb9 := hb7.trans (hb8.mono HB7)
        clear cW3
        go_wp2_with fail
        go_ret
        exact ⟨rfl, hb9⟩
      | some l =>
        rintro e w4 ⟨A4, d4, rfl, ho4, hb8⟩
        have hb9 := hb7.trans (hb8.mono HB7)
        have HB9 := hb9.size
        have BW4 := BW3.below hb8
        have cW4 := BW4.cell
        obtain ⟨hk1, hk2, hk3, hk4⟩ := HB2.out l rfl
        obtain ⟨hq1, hq2⟩ := HWD.out l rfl
        have TK3 := Lib.hid (TK2.out w4 _ A4 l.length d4 l rfl ho4 hk4 (by omega))
        rw [hk1] at TK3
        rw [hk3] at MY
        obtain ⟨m, hm⟩ : ∃ m, l.length = m := ⟨_, rfl⟩
        rw [hm] at TK3 hq1 hq2
        subst hq1
        clear hk1 hk2 hk3 hk4 cW3 BW3
        rw [hm]
        go_wp2_with fail
        refine TK3.out.mono ?_
        rintro e w5 ⟨rfl, hb10⟩
        have cW5 := (BW4.below hb10).cell
        have hb11 := hb9.trans (hb10.mono HB9)
        clear cW4 hm
        go_wp2_with fail
        refine (MY.out _).mono ?_
        rintro e w6 ⟨rfl, hb12⟩
        have hb13 := hb11.trans (hb12.mono hb11.size)
        go_wp2_with fail
        go_ret
        exact ⟨rfl, hb13⟩
end Go.Proofs.Ytmcmlglacblkiaa
