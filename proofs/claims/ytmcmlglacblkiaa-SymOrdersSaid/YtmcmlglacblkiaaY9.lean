/- SymOrders: the walk (printed by gen_ord18.py). -/
import Derived.Test.YtmcmlglacblkiaaY5
import Derived.Test.YtmcmlglacblkiaaY7
namespace Go.Proofs.Ytmcmlglacblkiaa
open Go.RowKit
set_option linter.unusedVariables false
set_option linter.unusedSimpArgs false
theorem takeV_flip (s : Sy) (b : List Int) : ({ s with bg := !s.bg } : Sy).takeV b.reverse = s.takeV b := by
  have hm : ({ s with bg := !s.bg } : Sy).may = s.may := rfl
  have hn : ({ s with bg := !s.bg } : Sy).num b.reverse = s.num b := by
    have : takeB b.reverse (!s.bg) = takeB b s.bg := by
      unfold takeB
      cases s.bg <;> simp
    unfold Sy.num
    dsimp only
    rw [this]
  unfold Sy.takeV
  rw [hm, hn, List.length_reverse]
theorem takeV_more (s : Sy) (a : Int) (b : List Int) : ({ s with ad := a } : Sy).takeV b = ((s.takeV b).1 + (if (s.takeV b).2 = 0 then a - s.ad else 0), (s.takeV b).2) := by
  have hm : ({ s with ad := a } : Sy).may = s.may := rfl
  have hn : ({ s with ad := a } : Sy).num b = s.num b := rfl
  unfold Sy.takeV
  rw [hm, hn]
  dsimp only
  split
  · split
    · simp; omega
    · simp
  · simp
theorem takeV_bd (s : Sy) (b : List Int) (hw : s.wf) (hu : b8 b) : -72057599000000000 ≤ (s.takeV b).1 ∧ (s.takeV b).1 ≤ 72057599000000000 := by
  unfold Sy.takeV
  split
  case isFalse => decide
  case isTrue hm =>
  split
  case isFalse => decide
  case isTrue hl =>
    have hmi := (may_iff s).1 hm
    have hnb := num_bd s b hu hmi.2.2 hl
    have hmb := mul_bd s.mu (s.num b) 16777216 4294967296 hmi.2.1.2.1 hmi.2.1.2.2 hnb.2.2.1 hnb.2.2.2 (by decide) (by decide)
    have := hw.ad0
    have := hw.ad1
    dsimp only
    omega
set_option maxRecDepth 100000 in
set_option maxHeartbeats 8000000 in
theorem orders_any (s : Sy) (A : Option Addr) (n c : Nat) (bs : List Int) (more : Int) (w : World) (h : s.wf) (hv0 : -32768 ≤ more) (hv1 : more ≤ 32767)
    (hx : bs.length = n) (hn : n ≤ c) (hc : c ≤ maxLen) (hr : Rd w w.heap.size A (u8s bs)) (hA : A = none → n = 0 ∧ c = 0) (hu : b8 bs) :
    Calls Try.prog 6 #[s.val, .slice A n c, .int .i16 more] w fun e w' => e = .returned (.bool true) ∧ Below w.heap.size w w' := by
  have hw := cut_wf s h
  obtain ⟨x, hxc⟩ : ∃ x, cut s = x := ⟨_, rfl⟩
  rw [hxc] at hw
  have FO := Lib.hid (few_one s h)
  unfold OneP at FO
  rw [hxc] at FO
  obtain ⟨N, hN⟩ : ∃ N, min n 4 = N := ⟨_, rfl⟩
  obtain ⟨b, hb, hrb, hub⟩ : ∃ b, b.length = N ∧ Rd w w.heap.size A (u8s b) ∧ b8 b := ⟨bs.take N, by rw [List.length_take]; omega, hr.take' N, fun y hy => hu y (List.mem_of_mem_take hy)⟩
  have TK := Lib.hid fun (W : World) (hW : Below w.heap.size w W) => stake_any x A N c b W hw hb ((hrb.below hW).more hW.size) (by omega) (by omega) hc hub
  obtain ⟨wa, hwa⟩ : ∃ wa, min (max (x.ad + more) (-2147483648)) 2147483647 = wa := ⟨_, rfl⟩
  have hwab : -2147483648 ≤ wa ∧ wa ≤ 2147483647 := by omega
  have hwz : ({ x with bg := !x.bg } : Sy).wf := ⟨hw.nm, hw.mu0, hw.mu1, hw.ad0, hw.ad1, hw.wd0, hw.wd1⟩
  have hww : ({ x with ad := wa } : Sy).wf := ⟨hw.nm, hw.mu0, hw.mu1, hwab.1, hwab.2, hw.wd0, hw.wd1⟩
  have TZ := Lib.hid fun (W : World) (B : Nat) (A' : Option Addr) (d : Nat) (ho : Own W B 5 1 A' N d (u8s b.reverse)) => stake_any { x with bg := !x.bg } A' N d b.reverse W hwz (by rw [List.length_reverse]; exact hb) ho.rd ho.2.1 (by omega) ho.2.2.1 (fun y hy => hub y (List.mem_reverse.1 hy))
  have TW := Lib.hid fun (W : World) (hW : Below w.heap.size w W) => stake_any { x with ad := wa } A N c b W hww hb ((hrb.below hW).more hW.size) (by omega) (by omega) hc hub
  have hbd := takeV_bd x b hw hub
  rw [takeV_flip] at TZ
  rw [takeV_more] at TW
  obtain ⟨t1, t2, ht⟩ : ∃ t1 t2, x.takeV b = (t1, t2) := ⟨_, _, rfl⟩
  rw [ht] at TK TZ TW hbd
  dsimp only at TW hbd
  obtain ⟨u1, hu1⟩ : ∃ u1, t1 + (if t2 = 0 then wa - x.ad else 0) = u1 := ⟨_, rfl⟩
  rw [hu1] at TW
  have HU1 : Hid (t2 = 0 → u1 = t1 + (wa - x.ad)) := fun h0 => by rw [← hu1, if_pos h0]
  have HBD := Lib.hid hbd
  have HAN : Hid (∀ t, t < N → ∃ bb oo y, A = some ⟨bb, oo, none⟩ ∧ (∀ W, Below w.heap.size w W → W.cell? ⟨bb, oo + t, none⟩ = some (.int .u8 y)) ∧ b[t]? = some y) := fun t hlt => by
    obtain ⟨b', o', e, hbl, hcc⟩ := hrb (by intro h; have h' : b = [] := by simpa using h
                                            rw [h'] at hb; simp at hb; omega)
    have hlt' : t < b.length := by omega
    exact ⟨b', o', b[t], e, fun W hW => (hW.cell (p := ⟨b', o' + t, none⟩) hbl).trans (hcc t _ (by rw [List.getElem?_map, List.getElem?_eq_getElem hlt']; rfl)), List.getElem?_eq_getElem hlt'⟩
  have HBL := Lib.hid hb
  have HWA := Lib.hid hwa
  have BS := Blk.new w 24 s.cs
  have hb0 := bl1 w (.cells s.cs 24)
  have hz0 := hb0.size
  have hmin : min (n : Int) 4 = (N : Int) := by omega
  have hNc : (N : Int) ≤ c := by omega
  have hN4 : N ≤ 4 := by omega
  have HN := Lib.hid hN
  have HXW := Lib.hid hw
  clear ht hxc hx hr hu hA hb hrb hub hw h hN hu1 hbd hwa hwz hww
  obtain ⟨nm, ar, at_, wd, bg, sg, mu, ad⟩ := s
  obtain ⟨nm', ar', at', wd', bg', sg', mu', ad'⟩ := x
  dsimp only at HWA TZ TW HU1
  have hxa := HXW.out.ad0
  have hxb := HXW.out.ad1
  dsimp only at hxa hxb
  clear HXW
  go_enter Try.func6, Try.ntmps6
  go_wp2_with fail
  refine (shown18_any _).mono ?_
  rintro e w0 ⟨rfl, hbs⟩
  have BS0 := BS.below hbs
  have cS := BS0.cell
  have hb00 := hb0.trans (hbs.mono hz0)
  have hz00 := hb00.size
  have BL := Blk.new w0 24 #[.string nm, .int .u8 ar, .int .u32 at_, .int .i64 wd, .bool bg, .bool sg, .int .i32 mu, .int .i32 ad]
  have hb000 := hb00.alloc hz00 (.cells #[.string nm, .int .u8 ar, .int .u32 at_, .int .i64 wd, .bool bg, .bool sg, .int .i32 mu, .int .i32 ad] 24)
  go_wp2_with fail
  refine (FO.out _ _ BL).mono ?_
  rintro e w1 ⟨b1, o1, d1, rfl, hcc, hb1⟩
  have c0 := hcc 0 _ rfl
  have c1 := hcc 1 _ rfl
  have c2 := hcc 2 _ rfl
  have c3 := hcc 3 _ rfl
  have c4 := hcc 4 _ rfl
  have c5 := hcc 5 _ rfl
  have c6 := hcc 6 _ rfl
  have c7 := hcc 7 _ rfl
  simp only [Nat.add_zero] at c0
  have hb2 := hb000.trans (hb1.mono hb000.size)
  have hz2 := hb2.size
  clear hcc cS
  go_upto_region 3 with fail
  refine wp_named fun W hW => ?_
  obtain ⟨BW, hbW⟩ := blk1 hW
  clear hW c0 c1 c2 c3 c4 c5 c6 c7
  have hb3 := hb2.trans (hbW.mono hz2)
  have HB3 := hb3.size
  clear hb000 hb00 hz00 hbs BS0 BL hb0 hz0 BS hbW hb1 hb2 hz2
  go_cut [9] (fun v wx => v = .slice A N c ∧ wx = W)
  case first =>
    by_cases h10 : n ≤ 4
    · have h10I : (n : Int) ≤ 4 := by omega
      obtain rfl : N = n := by have := HN.out; omega
      clear h10
      go_wp2_with fail
      go_meet
      case rel => exact ⟨rfl, rfl⟩
    · have h10I : (4 : Int) < n := by omega
      obtain rfl : N = 4 := by have := HN.out; omega
      clear h10
      go_wp2_with fail
      go_meet
      case rel => exact ⟨rfl, rfl⟩
  case rest =>
    obtain ⟨rfl, rfl⟩ := hcut
    have cW := BW.cell
    clear hmin
    go_wp2_with fail
    go_loopw [10, 33] (fun ov iv wx => ∃ (i : Nat) (B : Option Addr) (d : Nat), i ≤ N ∧ ov = .slice B i d ∧ iv = .int .i64 (i : Nat) ∧ Own wx wc.heap.size 5 1 B i d (u8s (b.reverse.take i)) ∧ Below wc.heap.size wc wx) (fun _ iv _ => N - (intOf iv).toNat)
    case atStart => exact ⟨0, none, 0, Nat.zero_le _, rfl, rfl, Own.nil _ _ _ _, Below.refl _ _⟩
    case round =>
      obtain ⟨i, B, d, hi, rfl, rfl, ho, hb⟩ := hrel
      have hz := hb.size
      by_cases hlt : i < N
      · have hltI : (i : Int) < N := by omega
        obtain ⟨t, ht⟩ : ∃ t, N - 1 - i = t := ⟨_, rfl⟩
        obtain ⟨bb, oo, y, rfl, cy0, hy⟩ := HAN.out t (by omega)
        have cy := cy0 wr (hb3.trans (hb.mono HB3))
        have htI : IntKind.i64.wrap (IntKind.i64.wrap ((N : Int) - 1) - i) = (t : Int) := by rw [IntKind.wrap_i64, IntKind.wrap_i64]; omega
        have htI2 : (N : Int) - 1 - i = (t : Int) := by omega
        have htN : (t : Int) < N := by omega
        have HE : Hid (b.reverse.take (i + 1) = b.reverse.take i ++ [y]) := by
          show _ = _
          have hl := HBL.out
          rw [List.take_add_one]
          congr 1
          rw [List.getElem?_reverse (by omega), hl, ht, hy]
          rfl
        clear ht hy hlt cy0
        go_wp2_with (at_builtin; refine wpList_app _ rfl (.tmp 36) (.tmp 45) 25 rfl wc.heap.size 5 (.int .u8 0) 1 1 Try.underlying25 info5 rfl (by decide) B i d _ rfl (ho.alloc _) _ _ 1 1 _ rfl rfl (Rd.one wr (.int .u8 y) 5) (one_one rfl) (by unfold maxLen; omega) (by omega) (by simp; omega) ?_; intro B' d' w' ho' hg hbk)
        have hb' : Below wc.heap.size wc w' := (hb.alloc hz _).grown hg (by simp; omega) (fun k hk => (ho.lt hk).1)
        have hus : u8s (b.reverse.take i) ++ [.int .u8 y] = u8s (b.reverse.take (i + 1)) := by rw [HE.out]; simp
        rw [hus] at ho'
        go_roundw
        case rel => exact ⟨i + 1, B', d', by omega, rfl, by go_num, ho', hb'⟩
        case measure => simp [intOf]; omega
      · obtain rfl : i = N := by omega
        have hl := HBL.out
        rw [List.take_of_length_le (by rw [List.length_reverse]; omega)] at ho
        have BWr := BW.below hb
        have cWr := BWr.cell
        have hbr := hb3.trans (hb.mono HB3)
        have hzr := hbr.size
        clear hl hlt hi cW HAN
        go_wp2_with fail
        refine (TK.out _ hbr).mono ?_
        rintro e w2 ⟨rfl, hb4⟩
        have BW2 := BWr.below hb4
        have cW2 := BW2.cell
        have hb5 := hbr.trans (hb4.mono hzr)
        have hz5 := hb5.size
        have ho2 := ho.below hb4
        clear cWr BWr
        go_upto_region 12 with fail
        refine wp_named fun w3 hw3 => ?_
        obtain ⟨BZ, hbz⟩ := blk1 hw3
        have BW3 := BW2.below hbz
        have ho3 := ho2.below hbz
        have hb6 := hb5.trans (hbz.mono hz5)
        have hz6 := hb6.size
        have hne : w1.heap.size ≠ w2.heap.size := by have := BW2.lt; omega
        clear hw3 cW2
        have cW3 := BW3.cell
        have cZ := BZ.cell
        have fZ := BZ.frozen
        go_upto_region 13 with fail
        refine wp_named fun w4 hw4 => ?_
        have hb7 : Below w.heap.size w w4 := by
          rw [hw4]
          exact hb6.grown (grown_set (grown_refl w3 (some w2.heap.size)) 4 _) hz6 (fun k hk => by injection hk with hk; omega)
        have BZ4 : Blk w4 w2.heap.size 24 #[.string nm', .int .u8 ar', .int .u32 at', .int .i64 wd', .bool (!bg'), .bool sg', .int .i32 mu', .int .i32 ad'] := by
          rw [hw4]
          exact BZ.set_ 4 _
        have BW4 : Blk w4 w1.heap.size 24 #[.string nm', .int .u8 ar', .int .u32 at', .int .i64 wd', .bool bg', .bool sg', .int .i32 mu', .int .i32 ad'] := by
          rw [hw4]
          exact BW3.far hne _
        have ho4 : Own w4 wc.heap.size 5 1 B i d (u8s b.reverse) := by
          rw [hw4]
          exact ho3.far (fun e => own_blk_ne ho3 BZ (by decide) e.symm) _
        have hz7 := hb7.size
        have cZ4 := BZ4.cell
        clear hw4 cW3 cZ fZ BZ BW3 ho3
        go_wp2_with fail
        refine (TZ.out _ _ _ _ ho4).mono ?_
        rintro e w5 ⟨rfl, hb8⟩
        have hb9 := hb7.trans (hb8.mono hz7)
        have hz9 := hb9.size
        have BW5 := BW4.below hb8
        have cW5 := BW5.cell
        clear cZ4 BZ4 ho4
        go_upto_region 15 with fail
        refine wp_named fun w6 hw6 => ?_
        obtain ⟨BV, hbv⟩ := blk1 hw6
        have BW6 := BW5.below hbv
        have hb10 := hb9.trans (hbv.mono hz9)
        have hz10 := hb10.size
        have hne2 : w1.heap.size ≠ w5.heap.size := by have := BW5.lt; omega
        clear hw6 cW5
        have cW6 := BW6.cell
        have cV := BV.cell
        have fV := BV.frozen
        go_cut [12] (fun v wx => v = .int .i64 t1 ∧ wx = w6.setCell ⟨w5.heap.size, 7, none⟩ (.int .i32 wa))
        case first =>
          go_wp2_with fail
          all_goals go_meet
          all_goals exact ⟨rfl, congrArg (fun z => w6.setCell ⟨w5.heap.size, 7, none⟩ (.int .i32 z)) (by have := HWA.out; omega)⟩
        case rest =>
          obtain ⟨rfl, hwc⟩ := hcut
          have hb11 : Below w.heap.size w wc := by
            rw [hwc]
            exact hb10.grown (grown_set (grown_refl w6 (some w5.heap.size)) 7 _) hz10 (fun k hk => by injection hk with hk; omega)
          have BV7 : Blk wc w5.heap.size 24 #[.string nm', .int .u8 ar', .int .u32 at', .int .i64 wd', .bool bg', .bool sg', .int .i32 mu', .int .i32 wa] := by
            rw [hwc]
            exact BV.set_ 7 _
          have BW7 : Blk wc w1.heap.size 24 #[.string nm', .int .u8 ar', .int .u32 at', .int .i64 wd', .bool bg', .bool sg', .int .i32 mu', .int .i32 ad'] := by
            rw [hwc]
            exact BW6.far hne2 _
          have cV7 := BV7.cell
          clear hwc cW6 cV fV BV BW6
          go_wp2_with fail
          refine (TW.out _ hb11).mono ?_
          rintro e w8 ⟨rfl, hb12⟩
          have cV8 := (BV7.below hb12).cell
          have cW8 := (BW7.below hb12).cell
          have hb13 := hb11.trans (hb12.mono hb11.size)
          clear cV7
          go_upto_region 17 with fail
          by_cases h0 : t2 = 0
          · have hu := HU1.out h0
            subst h0
            obtain ⟨D, hD⟩ : ∃ D, wa - ad' = D := ⟨_, rfl⟩
            have hbd := HBD.out
            have k1 : IntKind.i64.wrap (u1 - t1) = D := by rw [IntKind.wrap_i64]; omega
            have k2 : IntKind.i64.wrap (wa - ad') = D := by rw [IntKind.wrap_i64]; omega
            clear hu hD hbd
            go_wp2_with fail
            go_ret
            exact ⟨rfl, hb13⟩
          · have h0b : (t2 != 0) = true := by simpa using h0
            clear h0
            go_wp2_with fail
            go_ret
            exact ⟨rfl, hb13⟩
end Go.Proofs.Ytmcmlglacblkiaa
