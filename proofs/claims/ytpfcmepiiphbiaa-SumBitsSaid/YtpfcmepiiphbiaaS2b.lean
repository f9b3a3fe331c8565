/- sum.Of of the kinds, the walks (printed by gen_of.py). -/
import Derived.Test.YtpfcmepiiphbiaaSh
import Derived.Laws.EntriesVeiled
namespace Go.Proofs.Ytpfcmepiiphbiaa
open Go.RowKit
set_option linter.unusedVariables false
set_option linter.unusedSimpArgs false
set_option maxHeartbeats 4000000 in
theorem of_6 (A : Option Addr) (n c : Nat) (xs : List Int) (big : Bool) (w : World) (hx : xs.length = n) (hr : Rd w w.heap.size A (u8s xs)) (hA : A = none → n = 0 ∧ c = 0) (hn : n ≤ c) (hl : n ≤ 100000) (hc : c ≤ maxLen) (hu : b8 xs) :
    Calls Try.prog 28 #[.int .u8 6, .slice A n c, .bool big] w fun e w' => e = .returned (.tuple #[.int .u32 ((sumV 6 xs big).1 : Nat), .int .i64 (sumV 6 xs big).2]) ∧ Below w.heap.size w w' := by
  have hc' := hc
  unfold maxLen at hc
  have HX := Lib.hid hx
  have HU := Lib.hid hu
  have HB := Lib.hid fun (wq : World) (hq : Below w.heap.size w wq) => (hr.below hq).more hq.size
  have HAL := Lib.hid (accK_lt 6 xs big hu)
  have HAN : Hid (n ≠ 0 → ∃ bb oo, A = some ⟨bb, oo, none⟩) := fun hne => by
    obtain ⟨b, o, e, _, _⟩ := hr (by intro h; have h' : xs = [] := by simpa using h
                                     rw [h'] at hx; exact hne hx.symm)
    exact ⟨b, o, e⟩
  by_cases hmod : n % 4 = 0
  case neg =>
    have HV : Hid (sumV 6 xs big = (0, 5)) := by
      show _ = _
      unfold sumV
      rw [if_neg (by decide), if_neg (by rw [hx]; exact hmod)]
    have hmI : ((n : Int) % 4 == 0) = false := by rw [beq_eq_false_iff_ne]; omega
    clear hx hu hr hA hmod
    go_enter Try.func28, Try.ntmps28
    go_wp2_with fail
    refine (ways_6 w).mono ?_
    rintro e w1 ⟨rfl, hb1⟩
    have hz1 := hb1.size
    go_wp2_with fail
    go_ret2
    rw [HV.out]
    exact ⟨rfl, hb1.alloc hz1 _⟩
  case pos =>
    obtain ⟨m, hm⟩ : ∃ m, n = 4 * m := ⟨n / 4, by omega⟩
    have HV : Hid (sumV 6 xs big = (finK 6 (accK 6 xs big m), 0)) := by
      show _ = _
      unfold sumV
      rw [if_neg (by decide), if_pos (by rw [hx]; exact hmod), show xs.length / wdK 6 = m by rw [hx, hm]; exact Nat.mul_div_cancel_left m (by decide)]
    have hmI : (n : Int) % 4 = 0 := by omega
    have HM := Lib.hid hm
    clear hx hu hr hA hmod hm
    go_enter Try.func28, Try.ntmps28
    go_wp2_with fail
    refine (ways_6 w).mono ?_
    rintro e w1 ⟨rfl, hb1⟩
    have hz1 := hb1.size
    go_upto_region 4 with fail
    refine wp_named fun W hW => ?_
    obtain ⟨BW, hbW⟩ := blk1 hW
    clear hW
    have hb2 := hb1.trans (hbW.mono hz1)
    have hz2 := hb2.size
    have cW := BW.cell
    skip
    go_wp2_with fail
    clear hmI
    go_loopw [10, 11] (fun rv tv wx => ∃ j t : Nat, t = 4 * j ∧ t ≤ n ∧ rv = .int .u32 (accK 6 xs big j : Nat) ∧ tv = .int .i64 (t : Nat) ∧ Below W.heap.size W wx) (fun _ tv _ => n - (intOf tv).toNat)
    case atStart => exact ⟨0, 0, rfl, Nat.zero_le _, rfl, rfl, Below.refl _ _⟩
    case round =>
      obtain ⟨j, t, ht, htn, rfl, rfl, hb⟩ := hrel
      have HT := Lib.hid ht
      have hm := HM.out
      have RW := BW.rule
      have hz := hb.size
      have cX := (BW.below hb).cell
      by_cases hlt : t < n
      · obtain ⟨bb, oo, rfl⟩ := HAN.out (by omega)
        have hltI : (t : Int) < n := by omega
        have htw : t + 4 ≤ n := by omega
        have htwI : (t : Int) + 4 ≤ n := by omega
        have hncI : (n : Int) ≤ c := by omega
        obtain ⟨S, hS⟩ : ∃ S, t + 4 = S := ⟨_, rfl⟩
        have hw64 : IntKind.i64.wrap ((t : Int) + 4) = (S : Int) := by rw [IntKind.wrap_i64]; omega
        have hS1 : (t : Int) ≤ S := by omega
        have hct : ¬ c = t := by omega
        have hS2 : (S : Int) ≤ c := by omega
        obtain ⟨v, hv⟩ : ∃ v, wordV xs 4 big t = v := ⟨_, rfl⟩
        have hvl : v < 256 ^ 4 := by rw [← hv]; exact wordV_lt xs 4 big t HU.out (by rw [HX.out]; exact htw)
        have hv32 : v < 4294967296 := Nat.lt_of_lt_of_le hvl (by decide)
        have hcv := conv32 v hv32
        have TK : Hid (∀ wq, Below W.heap.size W wq → Calls Try.prog 24 #[.slice (some ⟨bb, oo + t, none⟩) (S - t) (c - t), .int .i64 4, .bool big] wq (TakeP wq (wordV xs 4 big t))) := fun (wq : World) (hq : Below W.heap.size W wq) => by
          rw [show S - t = 4 by omega]
          exact take_at bb oo c xs t 4 big wq (by decide) (by rw [HX.out]; exact htw) (HB.out wq (hb2.trans (hq.mono hz2))) (by rw [HX.out]; exact hn) hc' HU.out
        rw [hv] at TK
        have hac : accK 6 xs big (j + 1) = stepK 6 (accK 6 xs big j) v := by
          rw [← hv, ht]; rfl
        obtain ⟨r, hrr⟩ : ∃ r, accK 6 xs big j = r := ⟨_, rfl⟩
        have hrl := HAL.out j (by rw [HX.out, show wdK 6 * j = 4 * j from rfl]; omega)
        rw [hrr] at hac hrl ⊢
        have ST := Lib.hid fun (wq : World)  => add_step r v wq
        have HAC := Lib.hid hac
        have HS := Lib.hid hS
        clear hac hrr hv hvl hrl hv32 cW ht hm hS hlt
        go_wp2_with fail
        go_region_held (fun w' => Below W.heap.size W w') (first | exact hb.drew | exact Below.trans (by assumption) (Below.mono (by assumption) (Below.size (by assumption))) | exact bel2 (by assumption) (by assumption))
          (first | (go_at_call 24; (with_reducible refine (TK.out _ (by assumption)).mono ?_); rintro e w4 ⟨A4, c4, rfl, hb4⟩) | (go_at_call 24; trace_state; fail))
        all_goals
          go_wp2_with (go_at_call 42; (with_reducible refine (ST.out _).mono ?_); rintro e w5 ⟨rfl, rfl⟩)
          go_roundw
          case rel =>
            have hS := HS.out
            have ht := HT.out
            have hm := HM.out
            refine ⟨j + 1, S, by omega, by omega, congrArg (Value.int .u32) ?_, rfl, by assumption⟩
            rw [HAC.out]
            show _ = (((r + v) % 4294967296 : Nat) : Int)
            rw [IntKind.wrap_u32]; omega
          case measure =>
            have hS := HS.out
            simp [intOf]; omega
      · obtain rfl : t = n := by omega
        obtain rfl : j = m := by omega
        obtain ⟨r, hrr⟩ : ∃ r, accK 6 xs big j = r := ⟨_, rfl⟩
        have hrl := HAL.out j (by rw [HX.out, show wdK 6 * j = 4 * j from rfl]; omega)
        have HR := Lib.hid hrr
        rw [hrr] at hrl
        rw [hrr] at HV
        obtain ⟨R, hR⟩ : ∃ R, r = R := ⟨_, rfl⟩
        have hRl : R < 4294967296 := by omega
        have hfa : bits .and .u32 (R : Int) 4294967295 = ((R % 4294967296 : Nat) : Int) := by rw [u32_and32 R hRl, Nat.mod_eq_of_lt hRl]
        have hF : finK 6 r = R % 4294967296 := by rw [← hR]; rfl
        obtain ⟨F, hFF⟩ : ∃ F, R % 4294967296 = F := ⟨_, rfl⟩
        rw [hFF] at hfa hF
        rw [hF] at HV
        subst hR
        rw [hrr]
        clear hrl hRl hF hFF hrr HR ht hm
        go_wp2_with fail
        go_ret2
        rw [HV.out]
        exact ⟨rfl, hb2.trans (hb.mono hz2)⟩
set_option maxHeartbeats 4000000 in
theorem of_7 (A : Option Addr) (n c : Nat) (xs : List Int) (big : Bool) (w : World) (hx : xs.length = n) (hr : Rd w w.heap.size A (u8s xs)) (hA : A = none → n = 0 ∧ c = 0) (hn : n ≤ c) (hl : n ≤ 100000) (hc : c ≤ maxLen) (hu : b8 xs) :
    Calls Try.prog 28 #[.int .u8 7, .slice A n c, .bool big] w fun e w' => e = .returned (.tuple #[.int .u32 ((sumV 7 xs big).1 : Nat), .int .i64 (sumV 7 xs big).2]) ∧ Below w.heap.size w w' := by
  have hc' := hc
  unfold maxLen at hc
  have HX := Lib.hid hx
  have HU := Lib.hid hu
  have HB := Lib.hid fun (wq : World) (hq : Below w.heap.size w wq) => (hr.below hq).more hq.size
  have HAL := Lib.hid (accK_lt 7 xs big hu)
  have HAN : Hid (n ≠ 0 → ∃ bb oo, A = some ⟨bb, oo, none⟩) := fun hne => by
    obtain ⟨b, o, e, _, _⟩ := hr (by intro h; have h' : xs = [] := by simpa using h
                                     rw [h'] at hx; exact hne hx.symm)
    exact ⟨b, o, e⟩
  by_cases hmod : n % 1 = 0
  case neg =>
    exact absurd (Nat.mod_one n) hmod
  case pos =>
    obtain ⟨m, hm⟩ : ∃ m, n = 1 * m := ⟨n / 1, by omega⟩
    have HV : Hid (sumV 7 xs big = (finK 7 (accK 7 xs big m), 0)) := by
      show _ = _
      unfold sumV
      rw [if_neg (by decide), if_pos (by rw [hx]; exact hmod), show xs.length / wdK 7 = m by rw [hx, hm]; exact Nat.mul_div_cancel_left m (by decide)]
    have hmI : (n : Int) % 1 = 0 := by omega
    have HM := Lib.hid hm
    clear hx hu hr hA hmod hm
    go_enter Try.func28, Try.ntmps28
    go_wp2_with fail
    refine (ways_7 w).mono ?_
    rintro e w1 ⟨gl, rfl, hgl, hb1⟩
    have hz1 := hb1.size
    go_upto_region 4 with fail
    refine wp_named fun W hW => ?_
    obtain ⟨BW, hbW⟩ := blk1 hW
    clear hW
    have hb2 := hb1.trans (hbW.mono hz1)
    have hz2 := hb2.size
    have cW := BW.cell
    have hgW := hgl.below hbW
    go_wp2_with fail
    clear hmI
    go_loopw [10, 11] (fun rv tv wx => ∃ j t : Nat, t = 1 * j ∧ t ≤ n ∧ rv = .int .u32 (accK 7 xs big j : Nat) ∧ tv = .int .i64 (t : Nat) ∧ Below W.heap.size W wx) (fun _ tv _ => n - (intOf tv).toNat)
    case atStart => exact ⟨0, 0, rfl, Nat.zero_le _, rfl, rfl, Below.refl _ _⟩
    case round =>
      obtain ⟨j, t, ht, htn, rfl, rfl, hb⟩ := hrel
      have HT := Lib.hid ht
      have hm := HM.out
      have RW := BW.rule
      have hz := hb.size
      have cX := (BW.below hb).cell
      by_cases hlt : t < n
      · obtain ⟨bb, oo, rfl⟩ := HAN.out (by omega)
        have hltI : (t : Int) < n := by omega
        have htw : t + 1 ≤ n := by omega
        have htwI : (t : Int) + 1 ≤ n := by omega
        have hncI : (n : Int) ≤ c := by omega
        obtain ⟨S, hS⟩ : ∃ S, t + 1 = S := ⟨_, rfl⟩
        have hw64 : IntKind.i64.wrap ((t : Int) + 1) = (S : Int) := by rw [IntKind.wrap_i64]; omega
        have hS1 : (t : Int) ≤ S := by omega
        have hct : ¬ c = t := by omega
        have hS2 : (S : Int) ≤ c := by omega
        obtain ⟨v, hv⟩ : ∃ v, wordV xs 1 big t = v := ⟨_, rfl⟩
        have hvl : v < 256 ^ 1 := by rw [← hv]; exact wordV_lt xs 1 big t HU.out (by rw [HX.out]; exact htw)
        have hv32 : v < 4294967296 := Nat.lt_of_lt_of_le hvl (by decide)
        have hcv := conv32 v hv32
        have TK : Hid (∀ wq, Below W.heap.size W wq → Calls Try.prog 24 #[.slice (some ⟨bb, oo + t, none⟩) (S - t) (c - t), .int .i64 1, .bool big] wq (TakeP wq (wordV xs 1 big t))) := fun (wq : World) (hq : Below W.heap.size W wq) => by
          rw [show S - t = 1 by omega]
          exact take_at bb oo c xs t 1 big wq (by decide) (by rw [HX.out]; exact htw) (HB.out wq (hb2.trans (hq.mono hz2))) (by rw [HX.out]; exact hn) hc' HU.out
        rw [hv] at TK
        have hac : accK 7 xs big (j + 1) = stepK 7 (accK 7 xs big j) v := by
          rw [← hv, ht]; rfl
        obtain ⟨r, hrr⟩ : ∃ r, accK 7 xs big j = r := ⟨_, rfl⟩
        have hrl := HAL.out j (by rw [HX.out, show wdK 7 * j = 1 * j from rfl]; omega)
        rw [hrr] at hac hrl ⊢
        have ST := Lib.hid fun (wq : World) (hq : Below W.heap.size W wq) => low_step 40961 r v gl wq (by decide) hrl.1 hv32 (hgW.below hq)
        have HAC := Lib.hid hac
        have HS := Lib.hid hS
        clear hac hrr hv hvl hrl hv32 cW ht hm hS hlt
        go_wp2_with fail
        go_region_held (fun w' => Below W.heap.size W w') (first | exact hb.drew | exact Below.trans (by assumption) (Below.mono (by assumption) (Below.size (by assumption))) | exact bel2 (by assumption) (by assumption))
          (first | (go_at_call 24; (with_reducible refine (TK.out _ (by assumption)).mono ?_); rintro e w4 ⟨A4, c4, rfl, hb4⟩) | (go_at_call 24; trace_state; fail))
        all_goals
          go_wp2_with (go_at_call 45; (with_reducible refine (ST.out _ (by assumption)).mono ?_); rintro e w5 ⟨rfl, rfl⟩)
          go_roundw
          case rel =>
            have hS := HS.out
            have ht := HT.out
            have hm := HM.out
            refine ⟨j + 1, S, by omega, by omega, congrArg (Value.int .u32) ?_, rfl, by assumption⟩
            rw [HAC.out]
            rfl
          case measure =>
            have hS := HS.out
            simp [intOf]; omega
      · obtain rfl : t = n := by omega
        obtain rfl : j = m := by omega
        obtain ⟨r, hrr⟩ : ∃ r, accK 7 xs big j = r := ⟨_, rfl⟩
        have hrl := HAL.out j (by rw [HX.out, show wdK 7 * j = 1 * j from rfl]; omega)
        have HR := Lib.hid hrr
        rw [hrr] at hrl
        rw [hrr] at HV
        obtain ⟨R, hR⟩ : ∃ R, r = R := ⟨_, rfl⟩
        have hRl : R < 4294967296 := by omega
        have hfa : bits .and .u32 (R : Int) 65535 = ((R % 65536 : Nat) : Int) := u32_and16 R hRl
        have hF : finK 7 r = R % 65536 := by rw [← hR]; rfl
        obtain ⟨F, hFF⟩ : ∃ F, R % 65536 = F := ⟨_, rfl⟩
        rw [hFF] at hfa hF
        rw [hF] at HV
        subst hR
        rw [hrr]
        clear hrl hRl hF hFF hrr HR ht hm
        go_wp2_with fail
        go_ret2
        rw [HV.out]
        exact ⟨rfl, hb2.trans (hb.mono hz2)⟩
set_option maxHeartbeats 4000000 in
theorem of_8 (A : Option Addr) (n c : Nat) (xs : List Int) (big : Bool) (w : World) (hx : xs.length = n) (hr : Rd w w.heap.size A (u8s xs)) (hA : A = none → n = 0 ∧ c = 0) (hn : n ≤ c) (hl : n ≤ 100000) (hc : c ≤ maxLen) (hu : b8 xs) :
    Calls Try.prog 28 #[.int .u8 8, .slice A n c, .bool big] w fun e w' => e = .returned (.tuple #[.int .u32 ((sumV 8 xs big).1 : Nat), .int .i64 (sumV 8 xs big).2]) ∧ Below w.heap.size w w' := by
  have hc' := hc
  unfold maxLen at hc
  have HX := Lib.hid hx
  have HU := Lib.hid hu
  have HB := Lib.hid fun (wq : World) (hq : Below w.heap.size w wq) => (hr.below hq).more hq.size
  have HAL := Lib.hid (accK_lt 8 xs big hu)
  have HAN : Hid (n ≠ 0 → ∃ bb oo, A = some ⟨bb, oo, none⟩) := fun hne => by
    obtain ⟨b, o, e, _, _⟩ := hr (by intro h; have h' : xs = [] := by simpa using h
                                     rw [h'] at hx; exact hne hx.symm)
    exact ⟨b, o, e⟩
  by_cases hmod : n % 1 = 0
  case neg =>
    exact absurd (Nat.mod_one n) hmod
  case pos =>
    obtain ⟨m, hm⟩ : ∃ m, n = 1 * m := ⟨n / 1, by omega⟩
    have HV : Hid (sumV 8 xs big = (finK 8 (accK 8 xs big m), 0)) := by
      show _ = _
      unfold sumV
      rw [if_neg (by decide), if_pos (by rw [hx]; exact hmod), show xs.length / wdK 8 = m by rw [hx, hm]; exact Nat.mul_div_cancel_left m (by decide)]
    have hmI : (n : Int) % 1 = 0 := by omega
    have HM := Lib.hid hm
    clear hx hu hr hA hmod hm
    go_enter Try.func28, Try.ntmps28
    go_wp2_with fail
    refine (ways_8 w).mono ?_
    rintro e w1 ⟨rfl, hb1⟩
    have hz1 := hb1.size
    go_upto_region 4 with fail
    refine wp_named fun W hW => ?_
    obtain ⟨BW, hbW⟩ := blk1 hW
    clear hW
    have hb2 := hb1.trans (hbW.mono hz1)
    have hz2 := hb2.size
    have cW := BW.cell
    skip
    go_wp2_with fail
    clear hmI
    go_loopw [10, 11] (fun rv tv wx => ∃ j t : Nat, t = 1 * j ∧ t ≤ n ∧ rv = .int .u32 (accK 8 xs big j : Nat) ∧ tv = .int .i64 (t : Nat) ∧ Below W.heap.size W wx) (fun _ tv _ => n - (intOf tv).toNat)
    case atStart => exact ⟨0, 0, rfl, Nat.zero_le _, rfl, rfl, Below.refl _ _⟩
    case round =>
      obtain ⟨j, t, ht, htn, rfl, rfl, hb⟩ := hrel
      have HT := Lib.hid ht
      have hm := HM.out
      have RW := BW.rule
      have hz := hb.size
      have cX := (BW.below hb).cell
      by_cases hlt : t < n
      · obtain ⟨bb, oo, rfl⟩ := HAN.out (by omega)
        have hltI : (t : Int) < n := by omega
        have htw : t + 1 ≤ n := by omega
        have htwI : (t : Int) + 1 ≤ n := by omega
        have hncI : (n : Int) ≤ c := by omega
        obtain ⟨S, hS⟩ : ∃ S, t + 1 = S := ⟨_, rfl⟩
        have hw64 : IntKind.i64.wrap ((t : Int) + 1) = (S : Int) := by rw [IntKind.wrap_i64]; omega
        have hS1 : (t : Int) ≤ S := by omega
        have hct : ¬ c = t := by omega
        have hS2 : (S : Int) ≤ c := by omega
        obtain ⟨v, hv⟩ : ∃ v, wordV xs 1 big t = v := ⟨_, rfl⟩
        have hvl : v < 256 ^ 1 := by rw [← hv]; exact wordV_lt xs 1 big t HU.out (by rw [HX.out]; exact htw)
        have hv32 : v < 4294967296 := Nat.lt_of_lt_of_le hvl (by decide)
        have hcv := conv32 v hv32
        have TK : Hid (∀ wq, Below W.heap.size W wq → Calls Try.prog 24 #[.slice (some ⟨bb, oo + t, none⟩) (S - t) (c - t), .int .i64 1, .bool big] wq (TakeP wq (wordV xs 1 big t))) := fun (wq : World) (hq : Below W.heap.size W wq) => by
          rw [show S - t = 1 by omega]
          exact take_at bb oo c xs t 1 big wq (by decide) (by rw [HX.out]; exact htw) (HB.out wq (hb2.trans (hq.mono hz2))) (by rw [HX.out]; exact hn) hc' HU.out
        rw [hv] at TK
        have hac : accK 8 xs big (j + 1) = stepK 8 (accK 8 xs big j) v := by
          rw [← hv, ht]; rfl
        obtain ⟨r, hrr⟩ : ∃ r, accK 8 xs big j = r := ⟨_, rfl⟩
        have hrl := HAL.out j (by rw [HX.out, show wdK 8 * j = 1 * j from rfl]; omega)
        rw [hrr] at hac hrl ⊢
        have ST := Lib.hid fun (wq : World)  => high_step r v wq (hrl.2 trivial) hvl
        have HAC := Lib.hid hac
        have HS := Lib.hid hS
        clear hac hrr hv hvl hrl hv32 cW ht hm hS hlt
        go_wp2_with fail
        go_region_held (fun w' => Below W.heap.size W w') (first | exact hb.drew | exact Below.trans (by assumption) (Below.mono (by assumption) (Below.size (by assumption))) | exact bel2 (by assumption) (by assumption))
          (first | (go_at_call 24; (with_reducible refine (TK.out _ (by assumption)).mono ?_); rintro e w4 ⟨A4, c4, rfl, hb4⟩) | (go_at_call 24; trace_state; fail))
        all_goals
          go_wp2_with (go_at_call 44; (with_reducible refine (ST.out _).mono ?_); rintro e w5 ⟨rfl, rfl⟩)
          go_roundw
          case rel =>
            have hS := HS.out
            have ht := HT.out
            have hm := HM.out
            refine ⟨j + 1, S, by omega, by omega, congrArg (Value.int .u32) ?_, rfl, by assumption⟩
            rw [HAC.out]
            rfl
          case measure =>
            have hS := HS.out
            simp [intOf]; omega
      · obtain rfl : t = n := by omega
        obtain rfl : j = m := by omega
        obtain ⟨r, hrr⟩ : ∃ r, accK 8 xs big j = r := ⟨_, rfl⟩
        have hrl := HAL.out j (by rw [HX.out, show wdK 8 * j = 1 * j from rfl]; omega)
        have HR := Lib.hid hrr
        rw [hrr] at hrl
        rw [hrr] at HV
        obtain ⟨R, hR⟩ : ∃ R, r = R := ⟨_, rfl⟩
        have hRl : R < 4294967296 := by omega
        have hfa : bits .and .u32 (R : Int) 65535 = ((R % 65536 : Nat) : Int) := u32_and16 R hRl
        have hF : finK 8 r = R % 65536 := by rw [← hR]; rfl
        obtain ⟨F, hFF⟩ : ∃ F, R % 65536 = F := ⟨_, rfl⟩
        rw [hFF] at hfa hF
        rw [hF] at HV
        subst hR
        rw [hrr]
        clear hrl hRl hF hFF hrr HR ht hm
        go_wp2_with fail
        go_ret2
        rw [HV.out]
        exact ⟨rfl, hb2.trans (hb.mono hz2)⟩
set_option maxHeartbeats 4000000 in
theorem of_9 (A : Option Addr) (n c : Nat) (xs : List Int) (big : Bool) (w : World) (hx : xs.length = n) (hr : Rd w w.heap.size A (u8s xs)) (hA : A = none → n = 0 ∧ c = 0) (hn : n ≤ c) (hl : n ≤ 100000) (hc : c ≤ maxLen) (hu : b8 xs) :
    Calls Try.prog 28 #[.int .u8 9, .slice A n c, .bool big] w fun e w' => e = .returned (.tuple #[.int .u32 ((sumV 9 xs big).1 : Nat), .int .i64 (sumV 9 xs big).2]) ∧ Below w.heap.size w w' := by
  have hc' := hc
  unfold maxLen at hc
  have HX := Lib.hid hx
  have HU := Lib.hid hu
  have HB := Lib.hid fun (wq : World) (hq : Below w.heap.size w wq) => (hr.below hq).more hq.size
  have HAL := Lib.hid (accK_lt 9 xs big hu)
  have HAN : Hid (n ≠ 0 → ∃ bb oo, A = some ⟨bb, oo, none⟩) := fun hne => by
    obtain ⟨b, o, e, _, _⟩ := hr (by intro h; have h' : xs = [] := by simpa using h
                                     rw [h'] at hx; exact hne hx.symm)
    exact ⟨b, o, e⟩
  by_cases hmod : n % 1 = 0
  case neg =>
    exact absurd (Nat.mod_one n) hmod
  case pos =>
    obtain ⟨m, hm⟩ : ∃ m, n = 1 * m := ⟨n / 1, by omega⟩
    have HV : Hid (sumV 9 xs big = (finK 9 (accK 9 xs big m), 0)) := by
      show _ = _
      unfold sumV
      rw [if_neg (by decide), if_pos (by rw [hx]; exact hmod), show xs.length / wdK 9 = m by rw [hx, hm]; exact Nat.mul_div_cancel_left m (by decide)]
    have hmI : (n : Int) % 1 = 0 := by omega
    have HM := Lib.hid hm
    clear hx hu hr hA hmod hm
    go_enter Try.func28, Try.ntmps28
    go_wp2_with fail
    refine (ways_9 w).mono ?_
    rintro e w1 ⟨gl, rfl, hgl, hb1⟩
    have hz1 := hb1.size
    go_upto_region 4 with fail
    refine wp_named fun W hW => ?_
    obtain ⟨BW, hbW⟩ := blk1 hW
    clear hW
    have hb2 := hb1.trans (hbW.mono hz1)
    have hz2 := hb2.size
    have cW := BW.cell
    have hgW := hgl.below hbW
    go_wp2_with fail
    clear hmI
    go_loopw [10, 11] (fun rv tv wx => ∃ j t : Nat, t = 1 * j ∧ t ≤ n ∧ rv = .int .u32 (accK 9 xs big j : Nat) ∧ tv = .int .i64 (t : Nat) ∧ Below W.heap.size W wx) (fun _ tv _ => n - (intOf tv).toNat)
    case atStart => exact ⟨0, 0, rfl, Nat.zero_le _, rfl, rfl, Below.refl _ _⟩
    case round =>
      obtain ⟨j, t, ht, htn, rfl, rfl, hb⟩ := hrel
      have HT := Lib.hid ht
      have hm := HM.out
      have RW := BW.rule
      have hz := hb.size
      have cX := (BW.below hb).cell
      by_cases hlt : t < n
      · obtain ⟨bb, oo, rfl⟩ := HAN.out (by omega)
        have hltI : (t : Int) < n := by omega
        have htw : t + 1 ≤ n := by omega
        have htwI : (t : Int) + 1 ≤ n := by omega
        have hncI : (n : Int) ≤ c := by omega
        obtain ⟨S, hS⟩ : ∃ S, t + 1 = S := ⟨_, rfl⟩
        have hw64 : IntKind.i64.wrap ((t : Int) + 1) = (S : Int) := by rw [IntKind.wrap_i64]; omega
        have hS1 : (t : Int) ≤ S := by omega
        have hct : ¬ c = t := by omega
        have hS2 : (S : Int) ≤ c := by omega
        obtain ⟨v, hv⟩ : ∃ v, wordV xs 1 big t = v := ⟨_, rfl⟩
        have hvl : v < 256 ^ 1 := by rw [← hv]; exact wordV_lt xs 1 big t HU.out (by rw [HX.out]; exact htw)
        have hv32 : v < 4294967296 := Nat.lt_of_lt_of_le hvl (by decide)
        have hcv := conv32 v hv32
        have TK : Hid (∀ wq, Below W.heap.size W wq → Calls Try.prog 24 #[.slice (some ⟨bb, oo + t, none⟩) (S - t) (c - t), .int .i64 1, .bool big] wq (TakeP wq (wordV xs 1 big t))) := fun (wq : World) (hq : Below W.heap.size W wq) => by
          rw [show S - t = 1 by omega]
          exact take_at bb oo c xs t 1 big wq (by decide) (by rw [HX.out]; exact htw) (HB.out wq (hb2.trans (hq.mono hz2))) (by rw [HX.out]; exact hn) hc' HU.out
        rw [hv] at TK
        have hac : accK 9 xs big (j + 1) = stepK 9 (accK 9 xs big j) v := by
          rw [← hv, ht]; rfl
        obtain ⟨r, hrr⟩ : ∃ r, accK 9 xs big j = r := ⟨_, rfl⟩
        have hrl := HAL.out j (by rw [HX.out, show wdK 9 * j = 1 * j from rfl]; omega)
        rw [hrr] at hac hrl ⊢
        have ST := Lib.hid fun (wq : World) (hq : Below W.heap.size W wq) => low_step 3988292384 r v gl wq (by decide) hrl.1 hv32 (hgW.below hq)
        have HAC := Lib.hid hac
        have HS := Lib.hid hS
        clear hac hrr hv hvl hrl hv32 cW ht hm hS hlt
        go_wp2_with fail
        go_region_held (fun w' => Below W.heap.size W w') (first | exact hb.drew | exact Below.trans (by assumption) (Below.mono (by assumption) (Below.size (by assumption))) | exact bel2 (by assumption) (by assumption))
          (first | (go_at_call 24; (with_reducible refine (TK.out _ (by assumption)).mono ?_); rintro e w4 ⟨A4, c4, rfl, hb4⟩) | (go_at_call 24; trace_state; fail))
        all_goals
          go_wp2_with (go_at_call 45; (with_reducible refine (ST.out _ (by assumption)).mono ?_); rintro e w5 ⟨rfl, rfl⟩)
          go_roundw
          case rel =>
            have hS := HS.out
            have ht := HT.out
            have hm := HM.out
            refine ⟨j + 1, S, by omega, by omega, congrArg (Value.int .u32) ?_, rfl, by assumption⟩
            rw [HAC.out]
            rfl
          case measure =>
            have hS := HS.out
            simp [intOf]; omega
      · obtain rfl : t = n := by omega
        obtain rfl : j = m := by omega
        obtain ⟨r, hrr⟩ : ∃ r, accK 9 xs big j = r := ⟨_, rfl⟩
        have hrl := HAL.out j (by rw [HX.out, show wdK 9 * j = 1 * j from rfl]; omega)
        have HR := Lib.hid hrr
        rw [hrr] at hrl
        rw [hrr] at HV
        obtain ⟨R, hR⟩ : ∃ R, 4294967295 - r = R := ⟨_, rfl⟩
        have hRl : R < 4294967296 := by omega
        have hfa : bits .and .u32 (R : Int) 4294967295 = ((R % 4294967296 : Nat) : Int) := by rw [u32_and32 R hRl, Nat.mod_eq_of_lt hRl]
        have hF : finK 9 r = R % 4294967296 := by rw [← hR]; rfl
        obtain ⟨F, hFF⟩ : ∃ F, R % 4294967296 = F := ⟨_, rfl⟩
        rw [hFF] at hfa hF
        rw [hF] at HV
        have hfx := u32_not r hrl.1
        rw [hR] at hfx
        clear hR
        rw [hrr]
        clear hrl hRl hF hFF hrr HR ht hm
        go_wp2_with fail
        go_ret2
        rw [HV.out]
        exact ⟨rfl, hb2.trans (hb.mono hz2)⟩
end Go.Proofs.Ytpfcmepiiphbiaa
