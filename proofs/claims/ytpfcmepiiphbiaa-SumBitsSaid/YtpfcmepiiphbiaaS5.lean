/- Chapter 5, the reference: added, Word, Of; sum.Word. -/
import Derived.Test.YtpfcmepiiphbiaaS4
import Derived.Test.YtpfcmepiiphbiaaS2
namespace Go.Proofs.Ytpfcmepiiphbiaa
open Go.RowKit
set_option linter.unusedVariables false
set_option linter.unusedSimpArgs false
/-- The sum of the first words. -/
def addV (xs : List Int) (wd : Nat) (big : Bool) : Nat → Nat
  | 0 => 0
  | j + 1 => addV xs wd big j + wordV xs wd big (wd * j)
theorem accK_add (k : Nat) (hk : k ≠ 7 ∧ k ≠ 8 ∧ k ≠ 9) (xs : List Int) (big : Bool) : ∀ j, accK k xs big j = addV xs (wdK k) big j % 4294967296
  | 0 => by
    unfold accK startK addV
    rw [if_neg hk.2.1, if_neg hk.2.2]
  | j + 1 => by
    unfold accK addV stepK
    rw [if_neg hk.1, if_neg hk.2.1, if_neg hk.2.2, accK_add k hk xs big j]
    omega
theorem addV_lt (xs : List Int) (wd : Nat) (big : Bool) (hw : wd ≤ 4) (h : b8 xs) : ∀ j, wd * j ≤ xs.length → addV xs wd big j ≤ j * 4294967296
  | 0, _ => by simp [addV]
  | j + 1, hj => by
    have hj' : wd * j + wd ≤ xs.length := by rw [Nat.mul_succ] at hj; exact hj
    have h1 := addV_lt xs wd big hw h j (by omega)
    have h2 := wordV_lt xs wd big (wd * j) h hj'
    have h3 : (256 : Nat) ^ wd ≤ 256 ^ 4 := Nat.pow_le_pow_right (by decide) hw
    unfold addV
    have : (256 : Nat) ^ 4 = 4294967296 := by decide
    omega
theorem rtake_at (bb oo c : Nat) (xs : List Int) (t wd : Nat) (big : Bool) (w : World) (hw : isW wd = true) (ht : t + wd ≤ xs.length) (hr : Rd w w.heap.size (some ⟨bb, oo, none⟩) (u8s xs)) (hn : xs.length ≤ c) (hc : c ≤ maxLen) (hu : b8 xs) :
    Calls Try.prog 25 #[.slice (some ⟨bb, oo + t, none⟩) wd (c - t : Nat), .int .i64 wd, .bool big] w (TakeP w (wordV xs wd big t)) := by
  have hwl : wd ≤ 8 := by rcases isW_cases hw with h | h | h | h <;> omega
  have hu' : b8 ((xs.drop t).take wd) := fun x hx => hu x (List.mem_of_mem_drop (List.mem_of_mem_take hx))
  refine (rtake_any (some ⟨bb, oo + t, none⟩) wd (c - t) ((xs.drop t).take wd) wd big w hw (Nat.le_refl _) (by rw [List.length_take, List.length_drop]; omega) ((hr.drop t).take' wd) (by omega) (by omega) (by omega) hu').mono ?_
  rintro e w' ⟨A', c', rfl, ho, hb⟩
  rw [List.take_take, Nat.min_self, wordV_eq xs wd big t hu, List.drop_eq_nil_of_le (by rw [List.length_take]; omega)]
  exact ⟨A', c', rfl, hb⟩
set_option maxHeartbeats 4000000 in
theorem added_any (A : Option Addr) (n c m wd : Nat) (xs : List Int) (big : Bool) (w : World) (hw : isW wd = true) (hw4 : wd ≤ 4) (hx : xs.length = n) (hr : Rd w w.heap.size A (u8s xs)) (hn : n ≤ c) (hl : n ≤ 100000) (hc : c ≤ maxLen) (hu : b8 xs) (hm : n = wd * m) :
    Calls Try.prog 40 #[.slice A n c, .int .i64 wd, .bool big] w fun e w' => e = .returned (.int .u64 (addV xs wd big m : Nat)) ∧ Below w.heap.size w w' := by
  have hc' := hc
  unfold maxLen at hc
  have hw1 : 1 ≤ wd := by rcases isW_cases hw with h | h | h | h <;> omega
  have HX := Lib.hid hx
  have HU := Lib.hid hu
  have HW := Lib.hid hw
  have HM := Lib.hid hm
  have HB := Lib.hid fun (wq : World) (hq : Below w.heap.size w wq) => (hr.below hq).more hq.size
  have HAL := Lib.hid (addV_lt xs wd big hw4 hu)
  have HAN : Hid (n ≠ 0 → ∃ bb oo, A = some ⟨bb, oo, none⟩) := fun hne => by
    obtain ⟨b, o, e, _, _⟩ := hr (by intro h; have h' : xs = [] := by simpa using h
                                     rw [h'] at hx; exact hne hx.symm)
    exact ⟨b, o, e⟩
  clear hx hu hr hw hm
  go_enter Try.func40, Try.ntmps40
  go_wp2_with fail
  go_loopw [7, 8] (fun rv tv wx => ∃ j t : Nat, t = wd * j ∧ t ≤ n ∧ rv = .int .u64 (addV xs wd big j : Nat) ∧ tv = .int .i64 (t : Nat) ∧ Below w.heap.size w wx) (fun _ tv _ => n - (intOf tv).toNat)
  case atStart => exact ⟨0, 0, by simp, Nat.zero_le _, rfl, rfl, Below.refl _ _⟩
  case round =>
    obtain ⟨j, t, ht, htn, rfl, rfl, hb⟩ := hrel
    have HT := Lib.hid ht
    have hz := hb.size
    have hjn : t ≠ n → j < m := fun hne => by
      have hm := HM.out
      rcases Nat.lt_or_ge j m with h | h
      · exact h
      · have := Nat.mul_le_mul_left wd h
        omega
    by_cases hlt : t < n
    · obtain ⟨bb, oo, rfl⟩ := HAN.out (by omega)
      have hltI : (t : Int) < n := by omega
      have hjm := hjn (by omega)
      have htw : t + wd ≤ n := by
        have := Nat.mul_le_mul_left wd (show j + 1 ≤ m from hjm)
        rw [Nat.mul_succ] at this
        have hm := HM.out
        omega
      have hncI : (n : Int) ≤ c := by omega
      obtain ⟨S, hS⟩ : ∃ S, t + wd = S := ⟨_, rfl⟩
      have hw64 : IntKind.i64.wrap ((t : Int) + wd) = (S : Int) := by rw [IntKind.wrap_i64]; omega
      have hS1 : (t : Int) ≤ S := by omega
      have hct : ¬ c = t := by omega
      have hS2 : (S : Int) ≤ c := by omega
      obtain ⟨v, hv⟩ : ∃ v, wordV xs wd big t = v := ⟨_, rfl⟩
      have hjl : j ≤ 100000 := by
        have := Nat.le_mul_of_pos_left j (show 0 < wd by omega)
        omega
      have TK : Calls Try.prog 25 #[.slice (some ⟨bb, oo + t, none⟩) (S - t) (c - t), .int .i64 wd, .bool big] wr (TakeP wr (wordV xs wd big t)) := by
        rw [show S - t = wd by omega]
        exact rtake_at bb oo c xs t wd big wr HW.out (by rw [HX.out]; exact htw) (HB.out wr hb) (by rw [HX.out]; exact hn) hc' HU.out
      rw [hv] at TK
      have TK := Lib.hid TK
      have hac : addV xs wd big (j + 1) = addV xs wd big j + v := by
        rw [← hv, ht]; rfl
      have h2 := HAL.out (j + 1) (by rw [Nat.mul_succ, ← ht, HX.out]; exact htw)
      obtain ⟨r, hrr⟩ : ∃ r, addV xs wd big j = r := ⟨_, rfl⟩
      rw [hac, hrr] at h2
      rw [hrr] at hac ⊢
      have hw2 : IntKind.u64.wrap ((r : Int) + v) = ((r + v : Nat) : Int) := by rw [IntKind.wrap_u64]; omega
      obtain ⟨R, hR⟩ : ∃ R, r + v = R := ⟨_, rfl⟩
      rw [hR] at hw2 hac
      have HAC := Lib.hid hac
      have HS := Lib.hid hS
      clear hac hrr hv ht hS hlt h2 hR hjm hjn
      go_wp2_with fail
      refine TK.out.mono ?_
      rintro e w4 ⟨A4, c4, rfl, hb4⟩
      have hb5 := hb.trans (hb4.mono hz)
      go_wp2_with fail
      go_roundw
      case rel =>
        have hS := HS.out
        have ht := HT.out
        exact ⟨j + 1, S, by rw [Nat.mul_succ]; omega, by omega, by rw [HAC.out], rfl, hb5⟩
      case measure =>
        have hS := HS.out
        simp [intOf]; omega
    · obtain rfl : t = n := by omega
      have hm := HM.out
      obtain rfl : j = m := Nat.eq_of_mul_eq_mul_left (show 0 < wd by omega) (by omega)
      clear ht hm hjn
      go_wp2_with fail
      go_ret
      exact ⟨rfl, hb⟩
theorem lowS16 {p r : Nat} (hp : p < 65536) (hr : r < 65536) : lowS p r < 65536 := by
  unfold lowS
  split
  · exact xor16 (by omega) hp
  · omega
theorem lowN16 {p r : Nat} (hp : p < 65536) (hr : r < 65536) : ∀ k, lowN p k r < 65536
  | 0 => hr
  | k + 1 => lowS16 hp (lowN16 hp hr k)
theorem fold16_lt (xs : List Int) (h : b8 xs) : ∀ j, foldN (lowB 40961) 0 xs j < 65536
  | 0 => by show 0 < 65536; decide
  | j + 1 => lowN16 (by decide) (xor16 (fold16_lt xs h j) (by have := getD_b8 h j; omega)) 8
/-- The words of kinds. -/
theorem rword_any (k : Nat) (w : World) : Calls Try.prog 31 #[.int .u8 k] w fun e w' => e = .returned (.int .i64 (wdK k : Nat)) ∧ w = w' := by
  by_cases hk : k < 1 ∨ 9 < k
  · have HW : Hid (wdK k = 0) := by
      show _ = _
      unfold wdK; rw [if_neg (by omega), if_neg (by omega), if_neg (by omega)]
    have e1 : ((k : Int) == 1) = false := by rw [beq_eq_false_iff_ne]; omega
    have e2 : ((k : Int) == 2) = false := by rw [beq_eq_false_iff_ne]; omega
    have e3 : ((k : Int) == 3) = false := by rw [beq_eq_false_iff_ne]; omega
    have e4 : ((k : Int) == 4) = false := by rw [beq_eq_false_iff_ne]; omega
    have e5 : ((k : Int) == 5) = false := by rw [beq_eq_false_iff_ne]; omega
    have e6 : ((k : Int) == 6) = false := by rw [beq_eq_false_iff_ne]; omega
    have e7 : ((k : Int) == 7) = false := by rw [beq_eq_false_iff_ne]; omega
    have e8 : ((k : Int) == 8) = false := by rw [beq_eq_false_iff_ne]; omega
    have e9 : ((k : Int) == 9) = false := by rw [beq_eq_false_iff_ne]; omega
    clear hk
    go_enter Try.func31, Try.ntmps31
    go_wp2_with fail
    go_ret
    rw [HW.out]
    exact ⟨rfl, rfl⟩
  · obtain rfl | rfl | rfl | rfl | rfl | rfl | rfl | rfl | rfl : k = 1 ∨ k = 2 ∨ k = 3 ∨ k = 4 ∨ k = 5 ∨ k = 6 ∨ k = 7 ∨ k = 8 ∨ k = 9 := by omega
    all_goals
      clear hk
      go_enter Try.func31, Try.ntmps31
      go_wp2_with fail
      go_ret
      exact ⟨rfl, rfl⟩
set_option maxHeartbeats 4000000 in
theorem rof_7 (A : Option Addr) (n c : Nat) (xs : List Int) (big : Bool) (w : World) (hx : xs.length = n) (hr : Rd w w.heap.size A (u8s xs)) (hn : n ≤ c) (hl : n ≤ 100000) (hc : c ≤ maxLen) (hu : b8 xs) :
    Calls Try.prog 29 #[.int .u8 7, .slice A n c, .bool big] w fun e w' => e = .returned (.tuple #[.int .u32 ((sumV 7 xs big).1 : Nat), .int .i64 (sumV 7 xs big).2]) ∧ Below w.heap.size w w' := by
  have RW : Hid (Calls Try.prog 31 #[.int .u8 7] w fun e w' => e = .returned (.int .i64 1) ∧ w = w') := rword_any 7 w
  have hnI : (n : Int) ≤ 100000 := by omega
  by_cases hmod : n % 1 = 0
  case neg => exact absurd (Nat.mod_one n) hmod
  case pos =>
    obtain ⟨m, hm⟩ : ∃ m, n = 1 * m := ⟨n, by omega⟩
    have HV : Hid (sumV 7 xs big = (finK 7 (accK 7 xs big m), 0)) := by
      show _ = _
      unfold sumV
      rw [if_neg (by decide), if_pos (by rw [hx]; exact hmod), show xs.length / wdK 7 = m by rw [hx, hm]; exact Nat.mul_div_cancel_left m (by decide)]
    have hmI : (n : Int) % 1 = 0 := by omega
    have hnm : n = m := by omega
    have LC : Hid (Calls Try.prog 38 #[.int .u32 0, .int .u32 40961, .slice A n c] w fun e w' => e = .returned (.int .u32 (accK 7 xs big m : Nat)) ∧ w = w') := by
      have := rlow_any 40961 0 (by decide) (by decide) A n c xs w hx hr hn hl hc hu
      rw [← accK7 xs big n, hnm] at this
      rw [hnm]
      exact this
    have hrl := (accK_lt 7 xs big hu m (by rw [hx]; exact Nat.le_of_eq hm.symm)).1
    obtain ⟨r, hrr⟩ : ∃ r, accK 7 xs big m = r := ⟨_, rfl⟩
    rw [hrr] at HV LC hrl
    have hF : finK 7 r = r := by
      have hll : r < 65536 := by rw [← hrr, accK7]; exact fold16_lt xs hu m
      show r % 65536 = _
      omega
    rw [hF] at HV
    clear hF
    clear hx hr hu hmod hm hrl hrr hnm
    go_enter Try.func29, Try.ntmps29
    go_wp2_with fail
    refine RW.out.mono ?_
    rintro e w1 ⟨rfl, rfl⟩
    go_wp2_with fail
    refine LC.out.mono ?_
    rintro e w2 ⟨rfl, rfl⟩
    go_wp2_with fail
    go_ret2
    rw [HV.out]
    exact ⟨rfl, Below.refl _ _⟩
set_option maxHeartbeats 4000000 in
theorem rof_9 (A : Option Addr) (n c : Nat) (xs : List Int) (big : Bool) (w : World) (hx : xs.length = n) (hr : Rd w w.heap.size A (u8s xs)) (hn : n ≤ c) (hl : n ≤ 100000) (hc : c ≤ maxLen) (hu : b8 xs) :
    Calls Try.prog 29 #[.int .u8 9, .slice A n c, .bool big] w fun e w' => e = .returned (.tuple #[.int .u32 ((sumV 9 xs big).1 : Nat), .int .i64 (sumV 9 xs big).2]) ∧ Below w.heap.size w w' := by
  have RW : Hid (Calls Try.prog 31 #[.int .u8 9] w fun e w' => e = .returned (.int .i64 1) ∧ w = w') := rword_any 9 w
  have hnI : (n : Int) ≤ 100000 := by omega
  by_cases hmod : n % 1 = 0
  case neg => exact absurd (Nat.mod_one n) hmod
  case pos =>
    obtain ⟨m, hm⟩ : ∃ m, n = 1 * m := ⟨n, by omega⟩
    have HV : Hid (sumV 9 xs big = (finK 9 (accK 9 xs big m), 0)) := by
      show _ = _
      unfold sumV
      rw [if_neg (by decide), if_pos (by rw [hx]; exact hmod), show xs.length / wdK 9 = m by rw [hx, hm]; exact Nat.mul_div_cancel_left m (by decide)]
    have hmI : (n : Int) % 1 = 0 := by omega
    have hnm : n = m := by omega
    have LC : Hid (Calls Try.prog 38 #[.int .u32 4294967295, .int .u32 3988292384, .slice A n c] w fun e w' => e = .returned (.int .u32 (accK 9 xs big m : Nat)) ∧ w = w') := by
      have := rlow_any 3988292384 4294967295 (by decide) (by decide) A n c xs w hx hr hn hl hc hu
      rw [← accK9 xs big n, hnm] at this
      rw [hnm]
      exact this
    have hrl := (accK_lt 9 xs big hu m (by rw [hx]; exact Nat.le_of_eq hm.symm)).1
    obtain ⟨r, hrr⟩ : ∃ r, accK 9 xs big m = r := ⟨_, rfl⟩
    rw [hrr] at HV LC hrl
    have hfx := u32_not r hrl
    have hF : finK 9 r = 4294967295 - r := by
      show (4294967295 - r) % 4294967296 = _
      omega
    rw [hF] at HV
    obtain ⟨R, hR⟩ : ∃ R, 4294967295 - r = R := ⟨_, rfl⟩
    rw [hR] at HV hfx
    clear hR hF
    clear hx hr hu hmod hm hrl hrr hnm
    go_enter Try.func29, Try.ntmps29
    go_wp2_with fail
    refine RW.out.mono ?_
    rintro e w1 ⟨rfl, rfl⟩
    go_wp2_with fail
    refine LC.out.mono ?_
    rintro e w2 ⟨rfl, rfl⟩
    go_wp2_with fail
    go_ret2
    rw [HV.out]
    exact ⟨rfl, Below.refl _ _⟩
set_option maxHeartbeats 4000000 in
theorem rof_8 (A : Option Addr) (n c : Nat) (xs : List Int) (big : Bool) (w : World) (hx : xs.length = n) (hr : Rd w w.heap.size A (u8s xs)) (hn : n ≤ c) (hl : n ≤ 100000) (hc : c ≤ maxLen) (hu : b8 xs) :
    Calls Try.prog 29 #[.int .u8 8, .slice A n c, .bool big] w fun e w' => e = .returned (.tuple #[.int .u32 ((sumV 8 xs big).1 : Nat), .int .i64 (sumV 8 xs big).2]) ∧ Below w.heap.size w w' := by
  have RW : Hid (Calls Try.prog 31 #[.int .u8 8] w fun e w' => e = .returned (.int .i64 1) ∧ w = w') := rword_any 8 w
  have hnI : (n : Int) ≤ 100000 := by omega
  by_cases hmod : n % 1 = 0
  case neg => exact absurd (Nat.mod_one n) hmod
  case pos =>
    obtain ⟨m, hm⟩ : ∃ m, n = 1 * m := ⟨n, by omega⟩
    have HV : Hid (sumV 8 xs big = (finK 8 (accK 8 xs big m), 0)) := by
      show _ = _
      unfold sumV
      rw [if_neg (by decide), if_pos (by rw [hx]; exact hmod), show xs.length / wdK 8 = m by rw [hx, hm]; exact Nat.mul_div_cancel_left m (by decide)]
    have hmI : (n : Int) % 1 = 0 := by omega
    have hnm : n = m := by omega
    have LC : Hid (Calls Try.prog 39 #[.slice A n c] w fun e w' => e = .returned (.int .u32 (accK 8 xs big m : Nat)) ∧ w = w') := by
      have := rhigh_any A n c xs w hx hr hn hl hc hu
      rw [← accK8 xs big n, hnm] at this
      rw [hnm]
      exact this
    have hrl := (accK_lt 8 xs big hu m (by rw [hx]; exact Nat.le_of_eq hm.symm)).2 rfl
    obtain ⟨r, hrr⟩ : ∃ r, accK 8 xs big m = r := ⟨_, rfl⟩
    rw [hrr] at HV LC hrl
    have hF : finK 8 r = r := by
      show r % 65536 = _
      omega
    rw [hF] at HV
    clear hF
    clear hx hr hu hmod hm hrl hrr hnm
    go_enter Try.func29, Try.ntmps29
    go_wp2_with fail
    refine RW.out.mono ?_
    rintro e w1 ⟨rfl, rfl⟩
    go_wp2_with fail
    refine LC.out.mono ?_
    rintro e w2 ⟨rfl, rfl⟩
    go_wp2_with fail
    go_ret2
    rw [HV.out]
    exact ⟨rfl, Below.refl _ _⟩
set_option maxHeartbeats 4000000 in
theorem rof_1 (A : Option Addr) (n c : Nat) (xs : List Int) (big : Bool) (w : World) (hx : xs.length = n) (hr : Rd w w.heap.size A (u8s xs)) (hn : n ≤ c) (hl : n ≤ 100000) (hc : c ≤ maxLen) (hu : b8 xs) :
    Calls Try.prog 29 #[.int .u8 1, .slice A n c, .bool big] w fun e w' => e = .returned (.tuple #[.int .u32 ((sumV 1 xs big).1 : Nat), .int .i64 (sumV 1 xs big).2]) ∧ Below w.heap.size w w' := by
  have RW : Hid (Calls Try.prog 31 #[.int .u8 1] w fun e w' => e = .returned (.int .i64 1) ∧ w = w') := rword_any 1 w
  have hnI : (n : Int) ≤ 100000 := by omega
  by_cases hmod : n % 1 = 0
  case neg => exact absurd (Nat.mod_one n) hmod
  case pos =>
    obtain ⟨m, hm⟩ : ∃ m, n = 1 * m := ⟨n, by omega⟩
    have HV : Hid (sumV 1 xs big = (finK 1 (accK 1 xs big m), 0)) := by
      show _ = _
      unfold sumV
      rw [if_neg (by decide), if_pos (by rw [hx]; exact hmod), show xs.length / wdK 1 = m by rw [hx, hm]; exact Nat.mul_div_cancel_left m (by decide)]
    have hmI : (n : Int) % 1 = 0 := by omega
    have LC : Hid (Calls Try.prog 40 #[.slice A n c, .int .i64 1, .bool big] w fun e w' => e = .returned (.int .u64 (addV xs 1 big m : Nat)) ∧ Below w.heap.size w w') := added_any A n c m 1 xs big w (by decide) (by decide) hx hr hn hl hc hu hm
    have ha : accK 1 xs big m = addV xs 1 big m % 4294967296 := accK_add 1 (by decide) xs big m
    rw [ha] at HV
    obtain ⟨r, hrr⟩ : ∃ r, addV xs 1 big m = r := ⟨_, rfl⟩
    rw [hrr] at HV LC
    obtain ⟨R, hR⟩ : ∃ R, r % 256 = R := ⟨_, rfl⟩
    have hF : finK 1 (r % 4294967296) = R := by
      rw [← hR]
      show (r % 4294967296) % 256 = _
      omega
    rw [hF] at HV
    have hRI : (r : Int) % 256 = (R : Int) := by omega
    have hcv := conv32 R (by omega)
    clear hF hR ha hrr
    clear hx hr hu hmod hm
    go_enter Try.func29, Try.ntmps29
    go_wp2_with fail
    refine RW.out.mono ?_
    rintro e w1 ⟨rfl, rfl⟩
    go_wp2_with fail
    refine LC.out.mono ?_
    rintro e w2 ⟨rfl, hb⟩
    go_wp2_with fail
    go_ret2
    rw [HV.out]
    exact ⟨rfl, hb⟩
set_option maxHeartbeats 4000000 in
theorem rof_2 (A : Option Addr) (n c : Nat) (xs : List Int) (big : Bool) (w : World) (hx : xs.length = n) (hr : Rd w w.heap.size A (u8s xs)) (hn : n ≤ c) (hl : n ≤ 100000) (hc : c ≤ maxLen) (hu : b8 xs) :
    Calls Try.prog 29 #[.int .u8 2, .slice A n c, .bool big] w fun e w' => e = .returned (.tuple #[.int .u32 ((sumV 2 xs big).1 : Nat), .int .i64 (sumV 2 xs big).2]) ∧ Below w.heap.size w w' := by
  have RW : Hid (Calls Try.prog 31 #[.int .u8 2] w fun e w' => e = .returned (.int .i64 1) ∧ w = w') := rword_any 2 w
  have hnI : (n : Int) ≤ 100000 := by omega
  by_cases hmod : n % 1 = 0
  case neg => exact absurd (Nat.mod_one n) hmod
  case pos =>
    obtain ⟨m, hm⟩ : ∃ m, n = 1 * m := ⟨n, by omega⟩
    have HV : Hid (sumV 2 xs big = (finK 2 (accK 2 xs big m), 0)) := by
      show _ = _
      unfold sumV
      rw [if_neg (by decide), if_pos (by rw [hx]; exact hmod), show xs.length / wdK 2 = m by rw [hx, hm]; exact Nat.mul_div_cancel_left m (by decide)]
    have hmI : (n : Int) % 1 = 0 := by omega
    have LC : Hid (Calls Try.prog 40 #[.slice A n c, .int .i64 1, .bool big] w fun e w' => e = .returned (.int .u64 (addV xs 1 big m : Nat)) ∧ Below w.heap.size w w') := added_any A n c m 1 xs big w (by decide) (by decide) hx hr hn hl hc hu hm
    have ha : accK 2 xs big m = addV xs 1 big m % 4294967296 := accK_add 2 (by decide) xs big m
    rw [ha] at HV
    obtain ⟨r, hrr⟩ : ∃ r, addV xs 1 big m = r := ⟨_, rfl⟩
    rw [hrr] at HV LC
    obtain ⟨R, hR⟩ : ∃ R, r % 65536 = R := ⟨_, rfl⟩
    have hF : finK 2 (r % 4294967296) = R := by
      rw [← hR]
      show (r % 4294967296) % 65536 = _
      omega
    rw [hF] at HV
    have hRI : (r : Int) % 65536 = (R : Int) := by omega
    have hcv := conv32 R (by omega)
    clear hF hR ha hrr
    clear hx hr hu hmod hm
    go_enter Try.func29, Try.ntmps29
    go_wp2_with fail
    refine RW.out.mono ?_
    rintro e w1 ⟨rfl, rfl⟩
    go_wp2_with fail
    refine LC.out.mono ?_
    rintro e w2 ⟨rfl, hb⟩
    go_wp2_with fail
    go_ret2
    rw [HV.out]
    exact ⟨rfl, hb⟩
set_option maxHeartbeats 4000000 in
theorem rof_3 (A : Option Addr) (n c : Nat) (xs : List Int) (big : Bool) (w : World) (hx : xs.length = n) (hr : Rd w w.heap.size A (u8s xs)) (hn : n ≤ c) (hl : n ≤ 100000) (hc : c ≤ maxLen) (hu : b8 xs) :
    Calls Try.prog 29 #[.int .u8 3, .slice A n c, .bool big] w fun e w' => e = .returned (.tuple #[.int .u32 ((sumV 3 xs big).1 : Nat), .int .i64 (sumV 3 xs big).2]) ∧ Below w.heap.size w w' := by
  have RW : Hid (Calls Try.prog 31 #[.int .u8 3] w fun e w' => e = .returned (.int .i64 1) ∧ w = w') := rword_any 3 w
  have hnI : (n : Int) ≤ 100000 := by omega
  by_cases hmod : n % 1 = 0
  case neg => exact absurd (Nat.mod_one n) hmod
  case pos =>
    obtain ⟨m, hm⟩ : ∃ m, n = 1 * m := ⟨n, by omega⟩
    have HV : Hid (sumV 3 xs big = (finK 3 (accK 3 xs big m), 0)) := by
      show _ = _
      unfold sumV
      rw [if_neg (by decide), if_pos (by rw [hx]; exact hmod), show xs.length / wdK 3 = m by rw [hx, hm]; exact Nat.mul_div_cancel_left m (by decide)]
    have hmI : (n : Int) % 1 = 0 := by omega
    have LC : Hid (Calls Try.prog 40 #[.slice A n c, .int .i64 1, .bool big] w fun e w' => e = .returned (.int .u64 (addV xs 1 big m : Nat)) ∧ Below w.heap.size w w') := added_any A n c m 1 xs big w (by decide) (by decide) hx hr hn hl hc hu hm
    have ha : accK 3 xs big m = addV xs 1 big m % 4294967296 := accK_add 3 (by decide) xs big m
    rw [ha] at HV
    obtain ⟨r, hrr⟩ : ∃ r, addV xs 1 big m = r := ⟨_, rfl⟩
    rw [hrr] at HV LC
    obtain ⟨R, hR⟩ : ∃ R, r % 4294967296 = R := ⟨_, rfl⟩
    have hF : finK 3 (r % 4294967296) = R := by
      rw [← hR]
      show (r % 4294967296) % 4294967296 = _
      omega
    rw [hF] at HV
    have hRI : (r : Int) % 4294967296 = (R : Int) := by omega
    have hcv := conv32 R (by omega)
    clear hF hR ha hrr
    clear hx hr hu hmod hm
    go_enter Try.func29, Try.ntmps29
    go_wp2_with fail
    refine RW.out.mono ?_
    rintro e w1 ⟨rfl, rfl⟩
    go_wp2_with fail
    refine LC.out.mono ?_
    rintro e w2 ⟨rfl, hb⟩
    go_wp2_with fail
    go_ret2
    rw [HV.out]
    exact ⟨rfl, hb⟩
set_option maxHeartbeats 4000000 in
theorem rof_4 (A : Option Addr) (n c : Nat) (xs : List Int) (big : Bool) (w : World) (hx : xs.length = n) (hr : Rd w w.heap.size A (u8s xs)) (hn : n ≤ c) (hl : n ≤ 100000) (hc : c ≤ maxLen) (hu : b8 xs) :
    Calls Try.prog 29 #[.int .u8 4, .slice A n c, .bool big] w fun e w' => e = .returned (.tuple #[.int .u32 ((sumV 4 xs big).1 : Nat), .int .i64 (sumV 4 xs big).2]) ∧ Below w.heap.size w w' := by
  have RW : Hid (Calls Try.prog 31 #[.int .u8 4] w fun e w' => e = .returned (.int .i64 2) ∧ w = w') := rword_any 4 w
  have hnI : (n : Int) ≤ 100000 := by omega
  by_cases hmod : n % 2 = 0
  case neg =>
    have HV : Hid (sumV 4 xs big = (0, 5)) := by
      show _ = _
      unfold sumV
      rw [if_neg (by decide), if_neg (by rw [hx]; exact hmod)]
    have hmI : ((n : Int) % 2 == 0) = false := by rw [beq_eq_false_iff_ne]; omega
    clear hx hu hr hmod
    go_enter Try.func29, Try.ntmps29
    go_wp2_with fail
    refine RW.out.mono ?_
    rintro e w1 ⟨rfl, rfl⟩
    go_wp2_with fail
    go_ret2
    rw [HV.out]
    exact ⟨rfl, Below.refl _ _⟩
  case pos =>
    obtain ⟨m, hm⟩ : ∃ m, n = 2 * m := ⟨n / 2, by omega⟩
    have HV : Hid (sumV 4 xs big = (finK 4 (accK 4 xs big m), 0)) := by
      show _ = _
      unfold sumV
      rw [if_neg (by decide), if_pos (by rw [hx]; exact hmod), show xs.length / wdK 4 = m by rw [hx, hm]; exact Nat.mul_div_cancel_left m (by decide)]
    have hmI : (n : Int) % 2 = 0 := by omega
    have LC : Hid (Calls Try.prog 40 #[.slice A n c, .int .i64 2, .bool big] w fun e w' => e = .returned (.int .u64 (addV xs 2 big m : Nat)) ∧ Below w.heap.size w w') := added_any A n c m 2 xs big w (by decide) (by decide) hx hr hn hl hc hu hm
    have ha : accK 4 xs big m = addV xs 2 big m % 4294967296 := accK_add 4 (by decide) xs big m
    rw [ha] at HV
    obtain ⟨r, hrr⟩ : ∃ r, addV xs 2 big m = r := ⟨_, rfl⟩
    rw [hrr] at HV LC
    obtain ⟨R, hR⟩ : ∃ R, r % 65536 = R := ⟨_, rfl⟩
    have hF : finK 4 (r % 4294967296) = R := by
      rw [← hR]
      show (r % 4294967296) % 65536 = _
      omega
    rw [hF] at HV
    have hRI : (r : Int) % 65536 = (R : Int) := by omega
    have hcv := conv32 R (by omega)
    clear hF hR ha hrr
    clear hx hr hu hmod hm
    go_enter Try.func29, Try.ntmps29
    go_wp2_with fail
    refine RW.out.mono ?_
    rintro e w1 ⟨rfl, rfl⟩
    go_wp2_with fail
    refine LC.out.mono ?_
    rintro e w2 ⟨rfl, hb⟩
    go_wp2_with fail
    go_ret2
    rw [HV.out]
    exact ⟨rfl, hb⟩
set_option maxHeartbeats 4000000 in
theorem rof_5 (A : Option Addr) (n c : Nat) (xs : List Int) (big : Bool) (w : World) (hx : xs.length = n) (hr : Rd w w.heap.size A (u8s xs)) (hn : n ≤ c) (hl : n ≤ 100000) (hc : c ≤ maxLen) (hu : b8 xs) :
    Calls Try.prog 29 #[.int .u8 5, .slice A n c, .bool big] w fun e w' => e = .returned (.tuple #[.int .u32 ((sumV 5 xs big).1 : Nat), .int .i64 (sumV 5 xs big).2]) ∧ Below w.heap.size w w' := by
  have RW : Hid (Calls Try.prog 31 #[.int .u8 5] w fun e w' => e = .returned (.int .i64 2) ∧ w = w') := rword_any 5 w
  have hnI : (n : Int) ≤ 100000 := by omega
  by_cases hmod : n % 2 = 0
  case neg =>
    have HV : Hid (sumV 5 xs big = (0, 5)) := by
      show _ = _
      unfold sumV
      rw [if_neg (by decide), if_neg (by rw [hx]; exact hmod)]
    have hmI : ((n : Int) % 2 == 0) = false := by rw [beq_eq_false_iff_ne]; omega
    clear hx hu hr hmod
    go_enter Try.func29, Try.ntmps29
    go_wp2_with fail
    refine RW.out.mono ?_
    rintro e w1 ⟨rfl, rfl⟩
    go_wp2_with fail
    go_ret2
    rw [HV.out]
    exact ⟨rfl, Below.refl _ _⟩
  case pos =>
    obtain ⟨m, hm⟩ : ∃ m, n = 2 * m := ⟨n / 2, by omega⟩
    have HV : Hid (sumV 5 xs big = (finK 5 (accK 5 xs big m), 0)) := by
      show _ = _
      unfold sumV
      rw [if_neg (by decide), if_pos (by rw [hx]; exact hmod), show xs.length / wdK 5 = m by rw [hx, hm]; exact Nat.mul_div_cancel_left m (by decide)]
    have hmI : (n : Int) % 2 = 0 := by omega
    have LC : Hid (Calls Try.prog 40 #[.slice A n c, .int .i64 2, .bool big] w fun e w' => e = .returned (.int .u64 (addV xs 2 big m : Nat)) ∧ Below w.heap.size w w') := added_any A n c m 2 xs big w (by decide) (by decide) hx hr hn hl hc hu hm
    have ha : accK 5 xs big m = addV xs 2 big m % 4294967296 := accK_add 5 (by decide) xs big m
    rw [ha] at HV
    obtain ⟨r, hrr⟩ : ∃ r, addV xs 2 big m = r := ⟨_, rfl⟩
    rw [hrr] at HV LC
    obtain ⟨R, hR⟩ : ∃ R, r % 4294967296 = R := ⟨_, rfl⟩
    have hF : finK 5 (r % 4294967296) = R := by
      rw [← hR]
      show (r % 4294967296) % 4294967296 = _
      omega
    rw [hF] at HV
    have hRI : (r : Int) % 4294967296 = (R : Int) := by omega
    have hcv := conv32 R (by omega)
    clear hF hR ha hrr
    clear hx hr hu hmod hm
    go_enter Try.func29, Try.ntmps29
    go_wp2_with fail
    refine RW.out.mono ?_
    rintro e w1 ⟨rfl, rfl⟩
    go_wp2_with fail
    refine LC.out.mono ?_
    rintro e w2 ⟨rfl, hb⟩
    go_wp2_with fail
    go_ret2
    rw [HV.out]
    exact ⟨rfl, hb⟩
set_option maxHeartbeats 4000000 in
theorem rof_6 (A : Option Addr) (n c : Nat) (xs : List Int) (big : Bool) (w : World) (hx : xs.length = n) (hr : Rd w w.heap.size A (u8s xs)) (hn : n ≤ c) (hl : n ≤ 100000) (hc : c ≤ maxLen) (hu : b8 xs) :
    Calls Try.prog 29 #[.int .u8 6, .slice A n c, .bool big] w fun e w' => e = .returned (.tuple #[.int .u32 ((sumV 6 xs big).1 : Nat), .int .i64 (sumV 6 xs big).2]) ∧ Below w.heap.size w w' := by
  have RW : Hid (Calls Try.prog 31 #[.int .u8 6] w fun e w' => e = .returned (.int .i64 4) ∧ w = w') := rword_any 6 w
  have hnI : (n : Int) ≤ 100000 := by omega
  by_cases hmod : n % 4 = 0
  case neg =>
    have HV : Hid (sumV 6 xs big = (0, 5)) := by
      show _ = _
      unfold sumV
      rw [if_neg (by decide), if_neg (by rw [hx]; exact hmod)]
    have hmI : ((n : Int) % 4 == 0) = false := by rw [beq_eq_false_iff_ne]; omega
    clear hx hu hr hmod
    go_enter Try.func29, Try.ntmps29
    go_wp2_with fail
    refine RW.out.mono ?_
    rintro e w1 ⟨rfl, rfl⟩
    go_wp2_with fail
    go_ret2
    rw [HV.out]
    exact ⟨rfl, Below.refl _ _⟩
  case pos =>
    obtain ⟨m, hm⟩ : ∃ m, n = 4 * m := ⟨n / 4, by omega⟩
    have HV : Hid (sumV 6 xs big = (finK 6 (accK 6 xs big m), 0)) := by
      show _ = _
      unfold sumV
      rw [if_neg (by decide), if_pos (by rw [hx]; exact hmod), show xs.length / wdK 6 = m by rw [hx, hm]; exact Nat.mul_div_cancel_left m (by decide)]
    have hmI : (n : Int) % 4 = 0 := by omega
    have LC : Hid (Calls Try.prog 40 #[.slice A n c, .int .i64 4, .bool big] w fun e w' => e = .returned (.int .u64 (addV xs 4 big m : Nat)) ∧ Below w.heap.size w w') := added_any A n c m 4 xs big w (by decide) (by decide) hx hr hn hl hc hu hm
    have ha : accK 6 xs big m = addV xs 4 big m % 4294967296 := accK_add 6 (by decide) xs big m
    rw [ha] at HV
    obtain ⟨r, hrr⟩ : ∃ r, addV xs 4 big m = r := ⟨_, rfl⟩
    rw [hrr] at HV LC
    obtain ⟨R, hR⟩ : ∃ R, r % 4294967296 = R := ⟨_, rfl⟩
    have hF : finK 6 (r % 4294967296) = R := by
      rw [← hR]
      show (r % 4294967296) % 4294967296 = _
      omega
    rw [hF] at HV
    have hRI : (r : Int) % 4294967296 = (R : Int) := by omega
    have hcv := conv32 R (by omega)
    clear hF hR ha hrr
    clear hx hr hu hmod hm
    go_enter Try.func29, Try.ntmps29
    go_wp2_with fail
    refine RW.out.mono ?_
    rintro e w1 ⟨rfl, rfl⟩
    go_wp2_with fail
    refine LC.out.mono ?_
    rintro e w2 ⟨rfl, hb⟩
    go_wp2_with fail
    go_ret2
    rw [HV.out]
    exact ⟨rfl, hb⟩
theorem rof_no (k : Nat) (A : Option Addr) (n c : Nat) (xs : List Int) (big : Bool) (w : World) (hk : k < 1 ∨ 9 < k) :
    Calls Try.prog 29 #[.int .u8 k, .slice A n c, .bool big] w fun e w' => e = .returned (.tuple #[.int .u32 ((sumV k xs big).1 : Nat), .int .i64 (sumV k xs big).2]) ∧ Below w.heap.size w w' := by
  have hw : wdK k = 0 := by unfold wdK; rw [if_neg (by omega), if_neg (by omega), if_neg (by omega)]
  have HV : Hid (sumV k xs big = (0, 1)) := by
    show _ = _
    unfold sumV
    rw [if_pos hw]
  have RW := rword_any k w
  rw [hw] at RW
  have RW : Hid (Calls Try.prog 31 #[.int .u8 k] w fun e w' => e = .returned (.int .i64 0) ∧ w = w') := RW
  clear hk hw
  go_enter Try.func29, Try.ntmps29
  go_wp2_with fail
  refine RW.out.mono ?_
  rintro e w1 ⟨rfl, rfl⟩
  go_wp2_with fail
  go_ret2
  rw [HV.out]
  exact ⟨rfl, Below.refl _ _⟩
theorem rof_any (k : Nat) (A : Option Addr) (n c : Nat) (xs : List Int) (big : Bool) (w : World) (hx : xs.length = n) (hr : Rd w w.heap.size A (u8s xs)) (hn : n ≤ c) (hl : n ≤ 100000) (hc : c ≤ maxLen) (hu : b8 xs) :
    Calls Try.prog 29 #[.int .u8 k, .slice A n c, .bool big] w (OfP w k xs big) := by
  by_cases hk : k < 1 ∨ 9 < k
  · exact rof_no k A n c xs big w hk
  · obtain rfl | rfl | rfl | rfl | rfl | rfl | rfl | rfl | rfl : k = 1 ∨ k = 2 ∨ k = 3 ∨ k = 4 ∨ k = 5 ∨ k = 6 ∨ k = 7 ∨ k = 8 ∨ k = 9 := by omega
    · exact rof_1 A n c xs big w hx hr hn hl hc hu
    · exact rof_2 A n c xs big w hx hr hn hl hc hu
    · exact rof_3 A n c xs big w hx hr hn hl hc hu
    · exact rof_4 A n c xs big w hx hr hn hl hc hu
    · exact rof_5 A n c xs big w hx hr hn hl hc hu
    · exact rof_6 A n c xs big w hx hr hn hl hc hu
    · exact rof_7 A n c xs big w hx hr hn hl hc hu
    · exact rof_8 A n c xs big w hx hr hn hl hc hu
    · exact rof_9 A n c xs big w hx hr hn hl hc hu
set_option maxHeartbeats 2000000 in
/-- sum.Word. -/
theorem word_any (k : Nat) (w : World) : Calls Try.prog 30 #[.int .u8 k] w fun e w' => e = .returned (.int .i64 (wdK k : Nat)) ∧ Below w.heap.size w w' := by
  by_cases hk : k < 1 ∨ 9 < k
  · have HW : Hid (wdK k = 0) := by
      show _ = _
      unfold wdK; rw [if_neg (by omega), if_neg (by omega), if_neg (by omega)]
    have WN := Lib.hid (ways_no k w (by omega))
    unfold way0 at WN
    clear hk
    go_enter Try.func30, Try.ntmps30
    go_wp2_with fail
    refine WN.out.mono ?_
    rintro e w1 ⟨rfl, hb1⟩
    have hz1 := hb1.size
    go_wp2_with fail
    go_ret
    rw [HW.out]
    exact ⟨rfl, hb1.alloc hz1 _⟩
  · obtain rfl | rfl | rfl | rfl | rfl | rfl | rfl | rfl | rfl : k = 1 ∨ k = 2 ∨ k = 3 ∨ k = 4 ∨ k = 5 ∨ k = 6 ∨ k = 7 ∨ k = 8 ∨ k = 9 := by omega
    · clear hk
      go_enter Try.func30, Try.ntmps30
      go_wp2_with fail
      refine (ways_1 w).mono ?_
      rintro e w1 ⟨rfl, hb1⟩
      have hz1 := hb1.size
      go_wp2_with fail
      go_ret
      exact ⟨rfl, hb1.alloc hz1 _⟩
    · clear hk
      go_enter Try.func30, Try.ntmps30
      go_wp2_with fail
      refine (ways_2 w).mono ?_
      rintro e w1 ⟨rfl, hb1⟩
      have hz1 := hb1.size
      go_wp2_with fail
      go_ret
      exact ⟨rfl, hb1.alloc hz1 _⟩
    · clear hk
      go_enter Try.func30, Try.ntmps30
      go_wp2_with fail
      refine (ways_3 w).mono ?_
      rintro e w1 ⟨rfl, hb1⟩
      have hz1 := hb1.size
      go_wp2_with fail
      go_ret
      exact ⟨rfl, hb1.alloc hz1 _⟩
    · clear hk
      go_enter Try.func30, Try.ntmps30
      go_wp2_with fail
      refine (ways_4 w).mono ?_
      rintro e w1 ⟨rfl, hb1⟩
      have hz1 := hb1.size
      go_wp2_with fail
      go_ret
      exact ⟨rfl, hb1.alloc hz1 _⟩
    · clear hk
      go_enter Try.func30, Try.ntmps30
      go_wp2_with fail
      refine (ways_5 w).mono ?_
      rintro e w1 ⟨rfl, hb1⟩
      have hz1 := hb1.size
      go_wp2_with fail
      go_ret
      exact ⟨rfl, hb1.alloc hz1 _⟩
    · clear hk
      go_enter Try.func30, Try.ntmps30
      go_wp2_with fail
      refine (ways_6 w).mono ?_
      rintro e w1 ⟨rfl, hb1⟩
      have hz1 := hb1.size
      go_wp2_with fail
      go_ret
      exact ⟨rfl, hb1.alloc hz1 _⟩
    · clear hk
      go_enter Try.func30, Try.ntmps30
      go_wp2_with fail
      refine (ways_7 w).mono ?_
      rintro e w1 ⟨gl, rfl, hgl, hb1⟩
      have hz1 := hb1.size
      go_wp2_with fail
      go_ret
      exact ⟨rfl, hb1.alloc hz1 _⟩
    · clear hk
      go_enter Try.func30, Try.ntmps30
      go_wp2_with fail
      refine (ways_8 w).mono ?_
      rintro e w1 ⟨rfl, hb1⟩
      have hz1 := hb1.size
      go_wp2_with fail
      go_ret
      exact ⟨rfl, hb1.alloc hz1 _⟩
    · clear hk
      go_enter Try.func30, Try.ntmps30
      go_wp2_with fail
      refine (ways_9 w).mono ?_
      rintro e w1 ⟨gl, rfl, hgl, hb1⟩
      have hz1 := hb1.size
      go_wp2_with fail
      go_ret
      exact ⟨rfl, hb1.alloc hz1 _⟩
end Go.Proofs.Ytpfcmepiiphbiaa
