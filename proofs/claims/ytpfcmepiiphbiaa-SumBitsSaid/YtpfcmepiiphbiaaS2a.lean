/- sum.Of of the kinds, the walks (printed by gen_of.py). -/
import Derived.Test.YtpfcmepiiphbiaaSh
import Derived.Laws.EntriesVeiled
namespace Go.Proofs.Ytpfcmepiiphbiaa
open Go.RowKit
set_option linter.unusedVariables false
set_option linter.unusedSimpArgs false
set_option maxHeartbeats 4000000 in
theorem of_1 (A : Option Addr) (n c : Nat) (xs : List Int) (big : Bool) (w : World) (hx : xs.length = n) (hr : Rd w w.heap.size A (u8s xs)) (hA : A = none → n = 0 ∧ c = 0) (hn : n ≤ c) (hl : n ≤ 100000) (hc : c ≤ maxLen) (hu : b8 xs) :
    Calls Try.prog 28 #[.int .u8 1, .slice A n c, .bool big] w fun e w' => e = .returned (.tuple #[.int .u32 ((sumV 1 xs big).1 : Nat), .int .i64 (sumV 1 xs big).2]) ∧ Below w.heap.size w w' := by
  have hc' := hc
  unfold maxLen at hc
  have HX := Lib.hid hx
  have HU := Lib.hid hu
  have HB := Lib.hid fun (wq : World) (hq : Below w.heap.size w wq) => (hr.below hq).more hq.size
  have HAL := Lib.hid (accK_lt 1 xs big hu)
  have HAN : Hid (n ≠ 0 → ∃ bb oo, A = some ⟨bb, oo, none⟩) := fun hne => by
    obtain ⟨b, o, e, _, _⟩ := hr (by intro h; have h' : xs = [] := by simpa using h
                                     rw [h'] at hx; exact hne hx.symm)
    exact ⟨b, o, e⟩
  by_cases hmod : n % 1 = 0
  case neg =>
    exact absurd (Nat.mod_one n) hmod
  case pos =>
    obtain ⟨m, hm⟩ : ∃ m, n = 1 * m := ⟨n / 1, by omega⟩
    have HV : Hid (sumV 1 xs big = (finK 1 (accK 1 xs big m), 0)) := by
      show _ = _
      unfold sumV
      rw [if_neg (by decide), if_pos (by rw [hx]; exact hmod), show xs.length / wdK 1 = m by rw [hx, hm]; exact Nat.mul_div_cancel_left m (by decide)]
    have hmI : (n : Int) % 1 = 0 := by omega
    have HM := Lib.hid hm
    clear hx hu hr hA hmod hm
    go_enter Try.func28, Try.ntmps28
    go_wp2_with fail
    refine (ways_1 w).mono ?_
    rintro e w1 ⟨rfl, hb1⟩
    have hz1 := hb1.size
    go_upto_region 4 with fail
    refine wp_named fun W hW => ?_
    obtain ⟨BW, hbW⟩ := blk1 hW
    clear hW
    have hb2 := hb1.trans (hbW.mono hz1)
    have hz2 := hb2.size
    have cW := BW.cell
    skip
    go_wp2_with fail
    clear hmI
    go_loopw [10, 11] (fun rv tv wx => ∃ j t : Nat, t = 1 * j ∧ t ≤ n ∧ rv = .int .u32 (accK 1 xs big j : Nat) ∧ tv = .int .i64 (t : Nat) ∧ Below W.heap.size W wx) (fun _ tv _ => n - (intOf tv).toNat)
    case atStart => exact ⟨0, 0, rfl, Nat.zero_le _, rfl, rfl, Below.refl _ _⟩
    case round =>
      obtain ⟨j, t, ht, htn, rfl, rfl, hb⟩ := hrel
      have HT := Lib.hid ht
      have hm := HM.out
      have RW := BW.rule
      have hz := hb.size
      have cX := (BW.below hb).cell
      by_cases hlt : t < n
      · obtain ⟨bb, oo, rfl⟩ := HAN.out (by omega)
        have hltI : (t : Int) < n := by omega
        have htw : t + 1 ≤ n := by omega
        have htwI : (t : Int) + 1 ≤ n := by omega
        have hncI : (n : Int) ≤ c := by omega
        obtain ⟨S, hS⟩ : ∃ S, t + 1 = S := ⟨_, rfl⟩
        have hw64 : IntKind.i64.wrap ((t : Int) + 1) = (S : Int) := by rw [IntKind.wrap_i64]; omega
        have hS1 : (t : Int) ≤ S := by omega
        have hct : ¬ c = t := by omega
        have hS2 : (S : Int) ≤ c := by omega
        obtain ⟨v, hv⟩ : ∃ v, wordV xs 1 big t = v := ⟨_, rfl⟩
        have hvl : v < 256 ^ 1 := by rw [← hv]; exact wordV_lt xs 1 big t HU.out (by rw [HX.out]; exact htw)
        have hv32 : v < 4294967296 := Nat.lt_of_lt_of_le hvl (by decide)
        have hcv := conv32 v hv32
        have TK : Hid (∀ wq, Below W.heap.size W wq → Calls Try.prog 24 #[.slice (some ⟨bb, oo + t, none⟩) (S - t) (c - t), .int .i64 1, .bool big] wq (TakeP wq (wordV xs 1 big t))) := fun (wq : World) (hq : Below W.heap.size W wq) => by
          rw [show S - t = 1 by omega]
          exact take_at bb oo c xs t 1 big wq (by decide) (by rw [HX.out]; exact htw) (HB.out wq (hb2.trans (hq.mono hz2))) (by rw [HX.out]; exact hn) hc' HU.out
        rw [hv] at TK
        have hac : accK 1 xs big (j + 1) = stepK 1 (accK 1 xs big j) v := by
          rw [← hv, ht]; rfl
        obtain ⟨r, hrr⟩ : ∃ r, accK 1 xs big j = r := ⟨_, rfl⟩
        have hrl := HAL.out j (by rw [HX.out, show wdK 1 * j = 1 * j from rfl]; omega)
        rw [hrr] at hac hrl ⊢
        have ST := Lib.hid fun (wq : World)  => add_step r v wq
        have HAC := Lib.hid hac
        have HS := Lib.hid hS
        clear hac hrr hv hvl hrl hv32 cW ht hm hS hlt
        go_wp2_with fail
        go_region_held (fun w' => Below W.heap.size W w') (first | exact hb.drew | exact Below.trans (by assumption) (Below.mono (by assumption) (Below.size (by assumption))) | exact bel2 (by assumption) (by assumption))
          (first | (go_at_call 24; (with_reducible refine (TK.out _ (by assumption)).mono ?_); rintro e w4 ⟨A4, c4, rfl, hb4⟩) | (go_at_call 24; trace_state; fail))
        all_goals
          go_wp2_with (go_at_call 42; (with_reducible refine (ST.out _).mono ?_); rintro e w5 ⟨rfl, rfl⟩)
          go_roundw
          case rel =>
            have hS := HS.out
            have ht := HT.out
            have hm := HM.out
            refine ⟨j + 1, S, by omega, by omega, congrArg (Value.int .u32) ?_, rfl, by assumption⟩
            rw [HAC.out]
            show _ = (((r + v) % 4294967296 : Nat) : Int)
            rw [IntKind.wrap_u32]; omega
          case measure =>
            have hS := HS.out
            simp [intOf]; omega
      · obtain rfl : t = n := by omega
        obtain rfl : j = m := by omega
        obtain ⟨r, hrr⟩ : ∃ r, accK 1 xs big j = r := ⟨_, rfl⟩
        have hrl := HAL.out j (by rw [HX.out, show wdK 1 * j = 1 * j from rfl]; omega)
        have HR := Lib.hid hrr
        rw [hrr] at hrl
        rw [hrr] at HV
        obtain ⟨R, hR⟩ : ∃ R, r = R := ⟨_, rfl⟩
        have hRl : R < 4294967296 := by omega
        have hfa : bits .and .u32 (R : Int) 255 = ((R % 256 : Nat) : Int) := u32_and8 R hRl
        have hF : finK 1 r = R % 256 := by rw [← hR]; rfl
        obtain ⟨F, hFF⟩ : ∃ F, R % 256 = F := ⟨_, rfl⟩
        rw [hFF] at hfa hF
        rw [hF] at HV
        subst hR
        rw [hrr]
        clear hrl hRl hF hFF hrr HR ht hm
        go_wp2_with fail
        go_ret2
        rw [HV.out]
        exact ⟨rfl, hb2.trans (hb.mono hz2)⟩
set_option maxHeartbeats 4000000 in
theorem of_2 (A : Option Addr) (n c : Nat) (xs : List Int) (big : Bool) (w : World) (hx : xs.length = n) (hr : Rd w w.heap.size A (u8s xs)) (hA : A = none → n = 0 ∧ c = 0) (hn : n ≤ c) (hl : n ≤ 100000) (hc : c ≤ maxLen) (hu : b8 xs) :
    Calls Try.prog 28 #[.int .u8 2, .slice A n c, .bool big] w fun e w' => e = .returned (.tuple #[.int .u32 ((sumV 2 xs big).1 : Nat), .int .i64 (sumV 2 xs big).2]) ∧ Below w.heap.size w w' := by
  have hc' := hc
  unfold maxLen at hc
  have HX := Lib.hid hx
  have HU := Lib.hid hu
  have HB := Lib.hid fun (wq : World) (hq : Below w.heap.size w wq) => (hr.below hq).more hq.size
  have HAL := Lib.hid (accK_lt 2 xs big hu)
  have HAN : Hid (n ≠ 0 → ∃ bb oo, A = some ⟨bb, oo, none⟩) := fun hne => by
    obtain ⟨b, o, e, _, _⟩ := hr (by intro h; have h' : xs = [] := by simpa using h
                                     rw [h'] at hx; exact hne hx.symm)
    exact ⟨b, o, e⟩
  by_cases hmod : n % 1 = 0
  case neg =>
    exact absurd (Nat.mod_one n) hmod
  case pos =>
    obtain ⟨m, hm⟩ : ∃ m, n = 1 * m := ⟨n / 1, by omega⟩
    have HV : Hid (sumV 2 xs big = (finK 2 (accK 2 xs big m), 0)) := by
      show _ = _
      unfold sumV
      rw [if_neg (by decide), if_pos (by rw [hx]; exact hmod), show xs.length / wdK 2 = m by rw [hx, hm]; exact Nat.mul_div_cancel_left m (by decide)]
    have hmI : (n : Int) % 1 = 0 := by omega
    have HM := Lib.hid hm
    clear hx hu hr hA hmod hm
    go_enter Try.func28, Try.ntmps28
    go_wp2_with fail
    refine (ways_2 w).mono ?_
    rintro e w1 ⟨rfl, hb1⟩
    have hz1 := hb1.size
    go_upto_region 4 with fail
    refine wp_named fun W hW => ?_
    obtain ⟨BW, hbW⟩ := blk1 hW
    clear hW
    have hb2 := hb1.trans (hbW.mono hz1)
    have hz2 := hb2.size
    have cW := BW.cell
    skip
    go_wp2_with fail
    clear hmI
    go_loopw [10, 11] (fun rv tv wx => ∃ j t : Nat, t = 1 * j ∧ t ≤ n ∧ rv = .int .u32 (accK 2 xs big j : Nat) ∧ tv = .int .i64 (t : Nat) ∧ Below W.heap.size W wx) (fun _ tv _ => n - (intOf tv).toNat)
    case atStart => exact ⟨0, 0, rfl, Nat.zero_le _, rfl, rfl, Below.refl _ _⟩
    case round =>
      obtain ⟨j, t, ht, htn, rfl, rfl, hb⟩ := hrel
      have HT := Lib.hid ht
      have hm := HM.out
      have RW := BW.rule
      have hz := hb.size
      have cX := (BW.below hb).cell
      by_cases hlt : t < n
      · obtain ⟨bb, oo, rfl⟩ := HAN.out (by omega)
        have hltI : (t : Int) < n := by omega
        have htw : t + 1 ≤ n := by omega
        have htwI : (t : Int) + 1 ≤ n := by omega
        have hncI : (n : Int) ≤ c := by omega
        obtain ⟨S, hS⟩ : ∃ S, t + 1 = S := ⟨_, rfl⟩
        have hw64 : IntKind.i64.wrap ((t : Int) + 1) = (S : Int) := by rw [IntKind.wrap_i64]; omega
        have hS1 : (t : Int) ≤ S := by omega
        have hct : ¬ c = t := by omega
        have hS2 : (S : Int) ≤ c := by omega
        obtain ⟨v, hv⟩ : ∃ v, wordV xs 1 big t = v := ⟨_, rfl⟩
        have hvl : v < 256 ^ 1 := by rw [← hv]; exact wordV_lt xs 1 big t HU.out (by rw [HX.out]; exact htw)
        have hv32 : v < 4294967296 := Nat.lt_of_lt_of_le hvl (by decide)
        have hcv := conv32 v hv32
        have TK : Hid (∀ wq, Below W.heap.size W wq → Calls Try.prog 24 #[.slice (some ⟨bb, oo + t, none⟩) (S - t) (c - t), .int .i64 1, .bool big] wq (TakeP wq (wordV xs 1 big t))) := fun (wq : World) (hq : Below W.heap.size W wq) => by
          rw [show S - t = 1 by omega]
          exact take_at bb oo c xs t 1 big wq (by decide) (by rw [HX.out]; exact htw) (HB.out wq (hb2.trans (hq.mono hz2))) (by rw [HX.out]; exact hn) hc' HU.out
        rw [hv] at TK
        have hac : accK 2 xs big (j + 1) = stepK 2 (accK 2 xs big j) v := by
          rw [← hv, ht]; rfl
        obtain ⟨r, hrr⟩ : ∃ r, accK 2 xs big j = r := ⟨_, rfl⟩
        have hrl := HAL.out j (by rw [HX.out, show wdK 2 * j = 1 * j from rfl]; omega)
        rw [hrr] at hac hrl ⊢
        have ST := Lib.hid fun (wq : World)  => add_step r v wq
        have HAC := Lib.hid hac
        have HS := Lib.hid hS
        clear hac hrr hv hvl hrl hv32 cW ht hm hS hlt
        go_wp2_with fail
        go_region_held (fun w' => Below W.heap.size W w') (first | exact hb.drew | exact Below.trans (by assumption) (Below.mono (by assumption) (Below.size (by assumption))) | exact bel2 (by assumption) (by assumption))
          (first | (go_at_call 24; (with_reducible refine (TK.out _ (by assumption)).mono ?_); rintro e w4 ⟨A4, c4, rfl, hb4⟩) | (go_at_call 24; trace_state; fail))
        all_goals
          go_wp2_with (go_at_call 42; (with_reducible refine (ST.out _).mono ?_); rintro e w5 ⟨rfl, rfl⟩)
          go_roundw
          case rel =>
            have hS := HS.out
            have ht := HT.out
            have hm := HM.out
            refine ⟨j + 1, S, by omega, by omega, congrArg (Value.int .u32) ?_, rfl, by assumption⟩
            rw [HAC.out]
            show _ = (((r + v) % 4294967296 : Nat) : Int)
            rw [IntKind.wrap_u32]; omega
          case measure =>
            have hS := HS.out
            simp [intOf]; omega
      · obtain rfl : t = n := by omega
        obtain rfl : j = m := by omega
        obtain ⟨r, hrr⟩ : ∃ r, accK 2 xs big j = r := ⟨_, rfl⟩
        have hrl := HAL.out j (by rw [HX.out, show wdK 2 * j = 1 * j from rfl]; omega)
        have HR := Lib.hid hrr
        rw [hrr] at hrl
        rw [hrr] at HV
        obtain ⟨R, hR⟩ : ∃ R, r = R := ⟨_, rfl⟩
        have hRl : R < 4294967296 := by omega
        have hfa : bits .and .u32 (R : Int) 65535 = ((R % 65536 : Nat) : Int) := u32_and16 R hRl
        have hF : finK 2 r = R % 65536 := by rw [← hR]; rfl
        obtain ⟨F, hFF⟩ : ∃ F, R % 65536 = F := ⟨_, rfl⟩
        rw [hFF] at hfa hF
        rw [hF] at HV
        subst hR
        rw [hrr]
        clear hrl hRl hF hFF hrr HR ht hm
        go_wp2_with fail
        go_ret2
        rw [HV.out]
        exact ⟨rfl, hb2.trans (hb.mono hz2)⟩
set_option maxHeartbeats 4000000 in
theorem of_3 (A : Option Addr) (n c : Nat) (xs : List Int) (big : Bool) (w : World) (hx : xs.length = n) (hr : Rd w w.heap.size A (u8s xs)) (hA : A = none → n = 0 ∧ c = 0) (hn : n ≤ c) (hl : n ≤ 100000) (hc : c ≤ maxLen) (hu : b8 xs) :
    Calls Try.prog 28 #[.int .u8 3, .slice A n c, .bool big] w fun e w' => e = .returned (.tuple #[.int .u32 ((sumV 3 xs big).1 : Nat), .int .i64 (sumV 3 xs big).2]) ∧ Below w.heap.size w w' := by
  have hc' := hc
  unfold maxLen at hc
  have HX := Lib.hid hx
  have HU := Lib.hid hu
  have HB := Lib.hid fun (wq : World) (hq : Below w.heap.size w wq) => (hr.below hq).more hq.size
  have HAL := Lib.hid (accK_lt 3 xs big hu)
  have HAN : Hid (n ≠ 0 → ∃ bb oo, A = some ⟨bb, oo, none⟩) := fun hne => by
    obtain ⟨b, o, e, _, _⟩ := hr (by intro h; have h' : xs = [] := by simpa using h
                                     rw [h'] at hx; exact hne hx.symm)
    exact ⟨b, o, e⟩
  by_cases hmod : n % 1 = 0
  case neg =>
    exact absurd (Nat.mod_one n) hmod
  case pos =>
    obtain ⟨m, hm⟩ : ∃ m, n = 1 * m := ⟨n / 1, by omega⟩
    have HV : Hid (sumV 3 xs big = (finK 3 (accK 3 xs big m), 0)) := by
      show _ = _
      unfold sumV
      rw [if_neg (by decide), if_pos (by rw [hx]; exact hmod), show xs.length / wdK 3 = m by rw [hx, hm]; exact Nat.mul_div_cancel_left m (by decide)]
    have hmI : (n : Int) % 1 = 0 := by omega
    have HM := Lib.hid hm
    clear hx hu hr hA hmod hm
    go_enter Try.func28, Try.ntmps28
    go_wp2_with fail
    refine (ways_3 w).mono ?_
    rintro e w1 ⟨rfl, hb1⟩
    have hz1 := hb1.size
    go_upto_region 4 with fail
    refine wp_named fun W hW => ?_
    obtain ⟨BW, hbW⟩ := blk1 hW
    clear hW
    have hb2 := hb1.trans (hbW.mono hz1)
    have hz2 := hb2.size
    have cW := BW.cell
    skip
    go_wp2_with fail
    clear hmI
    go_loopw [10, 11] (fun rv tv wx => ∃ j t : Nat, t = 1 * j ∧ t ≤ n ∧ rv = .int .u32 (accK 3 xs big j : Nat) ∧ tv = .int .i64 (t : Nat) ∧ Below W.heap.size W wx) (fun _ tv _ => n - (intOf tv).toNat)
    case atStart => exact ⟨0, 0, rfl, Nat.zero_le _, rfl, rfl, Below.refl _ _⟩
    case round =>
      obtain ⟨j, t, ht, htn, rfl, rfl, hb⟩ := hrel
      have HT := Lib.hid ht
      have hm := HM.out
      have RW := BW.rule
      have hz := hb.size
      have cX := (BW.below hb).cell
      by_cases hlt : t < n
      · obtain ⟨bb, oo, rfl⟩ := HAN.out (by omega)
        have hltI : (t : Int) < n := by omega
        have htw : t + 1 ≤ n := by omega
        have htwI : (t : Int) + 1 ≤ n := by omega
        have hncI : (n : Int) ≤ c := by omega
        obtain ⟨S, hS⟩ : ∃ S, t + 1 = S := ⟨_, rfl⟩
        have hw64 : IntKind.i64.wrap ((t : Int) + 1) = (S : Int) := by rw [IntKind.wrap_i64]; omega
        have hS1 : (t : Int) ≤ S := by omega
        have hct : ¬ c = t := by omega
        have hS2 : (S : Int) ≤ c := by omega
        obtain ⟨v, hv⟩ : ∃ v, wordV xs 1 big t = v := ⟨_, rfl⟩
        have hvl : v < 256 ^ 1 := by rw [← hv]; exact wordV_lt xs 1 big t HU.out (by rw [HX.out]; exact htw)
        have hv32 : v < 4294967296 := Nat.lt_of_lt_of_le hvl (by decide)
        have hcv := conv32 v hv32
        have TK : Hid (∀ wq, Below W.heap.size W wq → Calls Try.prog 24 #[.slice (some ⟨bb, oo + t, none⟩) (S - t) (c - t), .int .i64 1, .bool big] wq (TakeP wq (wordV xs 1 big t))) := fun (wq : World) (hq : Below W.heap.size W wq) => by
          rw [show S - t = 1 by omega]
          exact take_at bb oo c xs t 1 big wq (by decide) (by rw [HX.out]; exact htw) (HB.out wq (hb2.trans (hq.mono hz2))) (by rw [HX.out]; exact hn) hc' HU.out
        rw [hv] at TK
        have hac : accK 3 xs big (j + 1) = stepK 3 (accK 3 xs big j) v := by
          rw [← hv, ht]; rfl
        obtain ⟨r, hrr⟩ : ∃ r, accK 3 xs big j = r := ⟨_, rfl⟩
        have hrl := HAL.out j (by rw [HX.out, show wdK 3 * j = 1 * j from rfl]; omega)
        rw [hrr] at hac hrl ⊢
        have ST := Lib.hid fun (wq : World)  => add_step r v wq
        have HAC := Lib.hid hac
        have HS := Lib.hid hS
        clear hac hrr hv hvl hrl hv32 cW ht hm hS hlt
        go_wp2_with fail
        go_region_held (fun w' => Below W.heap.size W w') (first | exact hb.drew | exact Below.trans (by assumption) (Below.mono (by assumption) (Below.size (by assumption))) | exact bel2 (by assumption) (by assumption))
          (first | (go_at_call 24; (with_reducible refine (TK.out _ (by assumption)).mono ?_); rintro e w4 ⟨A4, c4, rfl, hb4⟩) | (go_at_call 24; trace_state; fail))
        all_goals
          go_wp2_with (go_at_call 42; (with_reducible refine (ST.out _).mono ?_); rintro e w5 ⟨rfl, rfl⟩)
          go_roundw
          case rel =>
            have hS := HS.out
            have ht := HT.out
            have hm := HM.out
            refine ⟨j + 1, S, by omega, by omega, congrArg (Value.int .u32) ?_, rfl, by assumption⟩
            rw [HAC.out]
            show _ = (((r + v) % 4294967296 : Nat) : Int)
            rw [IntKind.wrap_u32]; omega
          case measure =>
            have hS := HS.out
            simp [intOf]; omega
      · obtain rfl : t = n := by omega
        obtain rfl : j = m := by omega
        obtain ⟨r, hrr⟩ : ∃ r, accK 3 xs big j = r := ⟨_, rfl⟩
        have hrl := HAL.out j (by rw [HX.out, show wdK 3 * j = 1 * j from rfl]; omega)
        have HR := Lib.hid hrr
        rw [hrr] at hrl
        rw [hrr] at HV
        obtain ⟨R, hR⟩ : ∃ R, r = R := ⟨_, rfl⟩
        have hRl : R < 4294967296 := by omega
        have hfa : bits .and .u32 (R : Int) 4294967295 = ((R % 4294967296 : Nat) : Int) := by rw [u32_and32 R hRl, Nat.mod_eq_of_lt hRl]
        have hF : finK 3 r = R % 4294967296 := by rw [← hR]; rfl
        obtain ⟨F, hFF⟩ : ∃ F, R % 4294967296 = F := ⟨_, rfl⟩
        rw [hFF] at hfa hF
        rw [hF] at HV
        subst hR
        rw [hrr]
        clear hrl hRl hF hFF hrr HR ht hm
        go_wp2_with fail
        go_ret2
        rw [HV.out]
        exact ⟨rfl, hb2.trans (hb.mono hz2)⟩
set_option maxHeartbeats 4000000 in
theorem of_4 (A : Option Addr) (n c : Nat) (xs : List Int) (big : Bool) (w : World) (hx : xs.length = n) (hr : Rd w w.heap.size A (u8s xs)) (hA : A = none → n = 0 ∧ c = 0) (hn : n ≤ c) (hl : n ≤ 100000) (hc : c ≤ maxLen) (hu : b8 xs) :
    Calls Try.prog 28 #[.int .u8 4, .slice A n c, .bool big] w fun e w' => e = .returned (.tuple #[.int .u32 ((sumV 4 xs big).1 : Nat), .int .i64 (sumV 4 xs big).2]) ∧ Below w.heap.size w w' := by
  have hc' := hc
  unfold maxLen at hc
  have HX := Lib.hid hx
  have HU := Lib.hid hu
  have HB := Lib.hid fun (wq : World) (hq : Below w.heap.size w wq) => (hr.below hq).more hq.size
  have HAL := Lib.hid (accK_lt 4 xs big hu)
  have HAN : Hid (n ≠ 0 → ∃ bb oo, A = some ⟨bb, oo, none⟩) := fun hne => by
    obtain ⟨b, o, e, _, _⟩ := hr (by intro h; have h' : xs = [] := by simpa using h
                                     rw [h'] at hx; exact hne hx.symm)
    exact ⟨b, o, e⟩
  by_cases hmod : n % 2 = 0
  case neg =>
    have HV : Hid (sumV 4 xs big = (0, 5)) := by
      show _ = _
      unfold sumV
      rw [if_neg (by decide), if_neg (by rw [hx]; exact hmod)]
    have hmI : ((n : Int) % 2 == 0) = false := by rw [beq_eq_false_iff_ne]; omega
    clear hx hu hr hA hmod
    go_enter Try.func28, Try.ntmps28
    go_wp2_with fail
    refine (ways_4 w).mono ?_
    rintro e w1 ⟨rfl, hb1⟩
    have hz1 := hb1.size
    go_wp2_with fail
    go_ret2
    rw [HV.out]
    exact ⟨rfl, hb1.alloc hz1 _⟩
  case pos =>
    obtain ⟨m, hm⟩ : ∃ m, n = 2 * m := ⟨n / 2, by omega⟩
    have HV : Hid (sumV 4 xs big = (finK 4 (accK 4 xs big m), 0)) := by
      show _ = _
      unfold sumV
      rw [if_neg (by decide), if_pos (by rw [hx]; exact hmod), show xs.length / wdK 4 = m by rw [hx, hm]; exact Nat.mul_div_cancel_left m (by decide)]
    have hmI : (n : Int) % 2 = 0 := by omega
    have HM := Lib.hid hm
    clear hx hu hr hA hmod hm
    go_enter Try.func28, Try.ntmps28
    go_wp2_with fail
    refine (ways_4 w).mono ?_
    rintro e w1 ⟨rfl, hb1⟩
    have hz1 := hb1.size
    go_upto_region 4 with fail
    refine wp_named fun W hW => ?_
    obtain ⟨BW, hbW⟩ := blk1 hW
    clear hW
    have hb2 := hb1.trans (hbW.mono hz1)
    have hz2 := hb2.size
    have cW := BW.cell
    skip
    go_wp2_with fail
    clear hmI
    go_loopw [10, 11] (fun rv tv wx => ∃ j t : Nat, t = 2 * j ∧ t ≤ n ∧ rv = .int .u32 (accK 4 xs big j : Nat) ∧ tv = .int .i64 (t : Nat) ∧ Below W.heap.size W wx) (fun _ tv _ => n - (intOf tv).toNat)
    case atStart => exact ⟨0, 0, rfl, Nat.zero_le _, rfl, rfl, Below.refl _ _⟩
    case round =>
      obtain ⟨j, t, ht, htn, rfl, rfl, hb⟩ := hrel
      have HT := Lib.hid ht
      have hm := HM.out
      have RW := BW.rule
      have hz := hb.size
      have cX := (BW.below hb).cell
      by_cases hlt : t < n
      · obtain ⟨bb, oo, rfl⟩ := HAN.out (by omega)
        have hltI : (t : Int) < n := by omega
        have htw : t + 2 ≤ n := by omega
        have htwI : (t : Int) + 2 ≤ n := by omega
        have hncI : (n : Int) ≤ c := by omega
        obtain ⟨S, hS⟩ : ∃ S, t + 2 = S := ⟨_, rfl⟩
        have hw64 : IntKind.i64.wrap ((t : Int) + 2) = (S : Int) := by rw [IntKind.wrap_i64]; omega
        have hS1 : (t : Int) ≤ S := by omega
        have hct : ¬ c = t := by omega
        have hS2 : (S : Int) ≤ c := by omega
        obtain ⟨v, hv⟩ : ∃ v, wordV xs 2 big t = v := ⟨_, rfl⟩
        have hvl : v < 256 ^ 2 := by rw [← hv]; exact wordV_lt xs 2 big t HU.out (by rw [HX.out]; exact htw)
        have hv32 : v < 4294967296 := Nat.lt_of_lt_of_le hvl (by decide)
        have hcv := conv32 v hv32
        have TK : Hid (∀ wq, Below W.heap.size W wq → Calls Try.prog 24 #[.slice (some ⟨bb, oo + t, none⟩) (S - t) (c - t), .int .i64 2, .bool big] wq (TakeP wq (wordV xs 2 big t))) := fun (wq : World) (hq : Below W.heap.size W wq) => by
          rw [show S - t = 2 by omega]
          exact take_at bb oo c xs t 2 big wq (by decide) (by rw [HX.out]; exact htw) (HB.out wq (hb2.trans (hq.mono hz2))) (by rw [HX.out]; exact hn) hc' HU.out
        rw [hv] at TK
        have hac : accK 4 xs big (j + 1) = stepK 4 (accK 4 xs big j) v := by
          rw [← hv, ht]; rfl
        obtain ⟨r, hrr⟩ : ∃ r, accK 4 xs big j = r := ⟨_, rfl⟩
        have hrl := HAL.out j (by rw [HX.out, show wdK 4 * j = 2 * j from rfl]; omega)
        rw [hrr] at hac hrl ⊢
        have ST := Lib.hid fun (wq : World)  => add_step r v wq
        have HAC := Lib.hid hac
        have HS := Lib.hid hS
        clear hac hrr hv hvl hrl hv32 cW ht hm hS hlt
        go_wp2_with fail
        go_region_held (fun w' => Below W.heap.size W w') (first | exact hb.drew | exact Below.trans (by assumption) (Below.mono (by assumption) (Below.size (by assumption))) | exact bel2 (by assumption) (by assumption))
          (first | (go_at_call 24; (with_reducible refine (TK.out _ (by assumption)).mono ?_); rintro e w4 ⟨A4, c4, rfl, hb4⟩) | (go_at_call 24; trace_state; fail))
        all_goals
          go_wp2_with (go_at_call 42; (with_reducible refine (ST.out _).mono ?_); rintro e w5 ⟨rfl, rfl⟩)
          go_roundw
          case rel =>
            have hS := HS.out
            have ht := HT.out
            have hm := HM.out
            refine ⟨j + 1, S, by omega, by omega, congrArg (Value.int .u32) ?_, rfl, by assumption⟩
            rw [HAC.out]
            show _ = (((r + v) % 4294967296 : Nat) : Int)
            rw [IntKind.wrap_u32]; omega
          case measure =>
            have hS := HS.out
            simp [intOf]; omega
      · obtain rfl : t = n := by omega
        obtain rfl : j = m := by omega
        obtain ⟨r, hrr⟩ : ∃ r, accK 4 xs big j = r := ⟨_, rfl⟩
        have hrl := HAL.out j (by rw [HX.out, show wdK 4 * j = 2 * j from rfl]; omega)
        have HR := Lib.hid hrr
        rw [hrr] at hrl
        rw [hrr] at HV
        obtain ⟨R, hR⟩ : ∃ R, r = R := ⟨_, rfl⟩
        have hRl : R < 4294967296 := by omega
        have hfa : bits .and .u32 (R : Int) 65535 = ((R % 65536 : Nat) : Int) := u32_and16 R hRl
        have hF : finK 4 r = R % 65536 := by rw [← hR]; rfl
        obtain ⟨F, hFF⟩ : ∃ F, R % 65536 = F := ⟨_, rfl⟩
        rw [hFF] at hfa hF
        rw [hF] at HV
        subst hR
        rw [hrr]
        clear hrl hRl hF hFF hrr HR ht hm
        go_wp2_with fail
        go_ret2
        rw [HV.out]
        exact ⟨rfl, hb2.trans (hb.mono hz2)⟩
set_option maxHeartbeats 4000000 in
theorem of_5 (A : Option Addr) (n c : Nat) (xs : List Int) (big : Bool) (w : World) (hx : xs.length = n) (hr : Rd w w.heap.size A (u8s xs)) (hA : A = none → n = 0 ∧ c = 0) (hn : n ≤ c) (hl : n ≤ 100000) (hc : c ≤ maxLen) (hu : b8 xs) :
    Calls Try.prog 28 #[.int .u8 5, .slice A n c, .bool big] w fun e w' => e = .returned (.tuple #[.int .u32 ((sumV 5 xs big).1 : Nat), .int .i64 (sumV 5 xs big).2]) ∧ Below w.heap.size w w' := by
  have hc' := hc
  unfold maxLen at hc
  have HX := Lib.hid hx
  have HU := Lib.hid hu
  have HB := Lib.hid fun (wq : World) (hq : Below w.heap.size w wq) => (hr.below hq).more hq.size
  have HAL := Lib.hid (accK_lt 5 xs big hu)
  have HAN : Hid (n ≠ 0 → ∃ bb oo, A = some ⟨bb, oo, none⟩) := fun hne => by
    obtain ⟨b, o, e, _, _⟩ := hr (by intro h; have h' : xs = [] := by simpa using h
                                     rw [h'] at hx; exact hne hx.symm)
    exact ⟨b, o, e⟩
  by_cases hmod : n % 2 = 0
  case neg =>
    have HV : Hid (sumV 5 xs big = (0, 5)) := by
      show _ = _
      unfold sumV
      rw [if_neg (by decide), if_neg (by rw [hx]; exact hmod)]
    have hmI : ((n : Int) % 2 == 0) = false := by rw [beq_eq_false_iff_ne]; omega
    clear hx hu hr hA hmod
    go_enter Try.func28, Try.ntmps28
    go_wp2_with fail
    refine (ways_5 w).mono ?_
    rintro e w1 ⟨rfl, hb1⟩
    have hz1 := hb1.size
    go_wp2_with fail
    go_ret2
    rw [HV.out]
    exact ⟨rfl, hb1.alloc hz1 _⟩
  case pos =>
    obtain ⟨m, hm⟩ : ∃ m, n = 2 * m := ⟨n / 2, by omega⟩
    have HV : Hid (sumV 5 xs big = (finK 5 (accK 5 xs big m), 0)) := by
      show _ = _
      unfold sumV
      rw [if_neg (by decide), if_pos (by rw [hx]; exact hmod), show xs.length / wdK 5 = m by rw [hx, hm]; exact Nat.mul_div_cancel_left m (by decide)]
    have hmI : (n : Int) % 2 = 0 := by omega
    have HM := Lib.hid hm
    clear hx hu hr hA hmod hm
    go_enter Try.func28, Try.ntmps28
    go_wp2_with fail
    refine (ways_5 w).mono ?_
    rintro e w1 ⟨rfl, hb1⟩
    have hz1 := hb1.size
    go_upto_region 4 with fail
    refine wp_named fun W hW => ?_
    obtain ⟨BW, hbW⟩ := blk1 hW
    clear hW
    have hb2 := hb1.trans (hbW.mono hz1)
    have hz2 := hb2.size
    have cW := BW.cell
    skip
    go_wp2_with fail
    clear hmI
    go_loopw [10, 11] (fun rv tv wx => ∃ j t : Nat, t = 2 * j ∧ t ≤ n ∧ rv = .int .u32 (accK 5 xs big j : Nat) ∧ tv = .int .i64 (t : Nat) ∧ Below W.heap.size W wx) (fun _ tv _ => n - (intOf tv).toNat)
    case atStart => exact ⟨0, 0, rfl, Nat.zero_le _, rfl, rfl, Below.refl _ _⟩
    case round =>
      obtain ⟨j, t, ht, htn, rfl, rfl, hb⟩ := hrel
      have HT := Lib.hid ht
      have hm := HM.out
      have RW := BW.rule
      have hz := hb.size
      have cX := (BW.below hb).cell
      by_cases hlt : t < n
      · obtain ⟨bb, oo, rfl⟩ := HAN.out (by omega)
        have hltI : (t : Int) < n := by omega
        have htw : t + 2 ≤ n := by omega
        have htwI : (t : Int) + 2 ≤ n := by omega
        have hncI : (n : Int) ≤ c := by omega
        obtain ⟨S, hS⟩ : ∃ S, t + 2 = S := ⟨_, rfl⟩
        have hw64 : IntKind.i64.wrap ((t : Int) + 2) = (S : Int) := by rw [IntKind.wrap_i64]; omega
        have hS1 : (t : Int) ≤ S := by omega
        have hct : ¬ c = t := by omega
        have hS2 : (S : Int) ≤ c := by omega
        obtain ⟨v, hv⟩ : ∃ v, wordV xs 2 big t = v := ⟨_, rfl⟩
        have hvl : v < 256 ^ 2 := by rw [← hv]; exact wordV_lt xs 2 big t HU.out (by rw [HX.out]; exact htw)
        have hv32 : v < 4294967296 := Nat.lt_of_lt_of_le hvl (by decide)
        have hcv := conv32 v hv32
        have TK : Hid (∀ wq, Below W.heap.size W wq → Calls Try.prog 24 #[.slice (some ⟨bb, oo + t, none⟩) (S - t) (c - t), .int .i64 2, .bool big] wq (TakeP wq (wordV xs 2 big t))) := fun (wq : World) (hq : Below W.heap.size W wq) => by
          rw [show S - t = 2 by omega]
          exact take_at bb oo c xs t 2 big wq (by decide) (by rw [HX.out]; exact htw) (HB.out wq (hb2.trans (hq.mono hz2))) (by rw [HX.out]; exact hn) hc' HU.out
        rw [hv] at TK
        have hac : accK 5 xs big (j + 1) = stepK 5 (accK 5 xs big j) v := by
          rw [← hv, ht]; rfl
        obtain ⟨r, hrr⟩ : ∃ r, accK 5 xs big j = r := ⟨_, rfl⟩
        have hrl := HAL.out j (by rw [HX.out, show wdK 5 * j = 2 * j from rfl]; omega)
        rw [hrr] at hac hrl ⊢
        have ST := Lib.hid fun (wq : World)  => add_step r v wq
        have HAC := Lib.hid hac
        have HS := Lib.hid hS
        clear hac hrr hv hvl hrl hv32 cW ht hm hS hlt
        go_wp2_with fail
        go_region_held (fun w' => Below W.heap.size W w') (first | exact hb.drew | exact Below.trans (by assumption) (Below.mono (by assumption) (Below.size (by assumption))) | exact bel2 (by assumption) (by assumption))
          (first | (go_at_call 24; (with_reducible refine (TK.out _ (by assumption)).mono ?_); rintro e w4 ⟨A4, c4, rfl, hb4⟩) | (go_at_call 24; trace_state; fail))
        all_goals
          go_wp2_with (go_at_call 42; (with_reducible refine (ST.out _).mono ?_); rintro e w5 ⟨rfl, rfl⟩)
          go_roundw
          case rel =>
            have hS := HS.out
            have ht := HT.out
            have hm := HM.out
            refine ⟨j + 1, S, by omega, by omega, congrArg (Value.int .u32) ?_, rfl, by assumption⟩
            rw [HAC.out]
            show _ = (((r + v) % 4294967296 : Nat) : Int)
            rw [IntKind.wrap_u32]; omega
          case measure =>
            have hS := HS.out
            simp [intOf]; omega
      · obtain rfl : t = n := by omega
        obtain rfl : j = m := by omega
        obtain ⟨r, hrr⟩ : ∃ r, accK 5 xs big j = r := ⟨_, rfl⟩
        have hrl := HAL.out j (by rw [HX.out, show wdK 5 * j = 2 * j from rfl]; omega)
        have HR := Lib.hid hrr
        rw [hrr] at hrl
        rw [hrr] at HV
        obtain ⟨R, hR⟩ : ∃ R, r = R := ⟨_, rfl⟩
        have hRl : R < 4294967296 := by omega
        have hfa : bits .and .u32 (R : Int) 4294967295 = ((R % 4294967296 : Nat) : Int) := by rw [u32_and32 R hRl, Nat.mod_eq_of_lt hRl]
        have hF : finK 5 r = R % 4294967296 := by rw [← hR]; rfl
        obtain ⟨F, hFF⟩ : ∃ F, R % 4294967296 = F := ⟨_, rfl⟩
        rw [hFF] at hfa hF
        rw [hF] at HV
        subst hR
        rw [hrr]
        clear hrl hRl hF hFF hrr HR ht hm
        go_wp2_with fail
        go_ret2
        rw [HV.out]
        exact ⟨rfl, hb2.trans (hb.mono hz2)⟩
end Go.Proofs.Ytpfcmepiiphbiaa
