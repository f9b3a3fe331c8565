/- SumParts: the plain law; the walk. -/
import Derived.Test.YtpfcmepiiphbiaaS9
namespace Go.Proofs.Ytpfcmepiiphbiaa
open Go.RowKit Go.Maps
set_option linter.unusedVariables false
set_option linter.unusedSimpArgs false
theorem lowS_even (p a : Nat) : lowS p (2 * a) = a := by unfold lowS; rw [if_neg (by omega)]; omega
theorem lowN_succ' (p : Nat) : ∀ k r, lowN p (k + 1) r = lowN p k (lowS p r)
  | 0, _ => rfl
  | k + 1, r => by
    show lowS p (lowN p (k + 1) r) = lowS p (lowN p k (lowS p r))
    rw [lowN_succ' p k r]
theorem lowN_shift (p : Nat) : ∀ k a, lowN p k (2 ^ k * a) = a
  | 0, a => by show 2 ^ 0 * a = a; omega
  | k + 1, a => by
    rw [lowN_succ', show 2 ^ (k + 1) * a = 2 * (2 ^ k * a) by rw [Nat.pow_succ]; rw [Nat.mul_comm (2 ^ k) 2, Nat.mul_assoc], lowS_even, lowN_shift p k a]
theorem xor_low (n : Nat) : n ^^^ (n % 256) = 2 ^ 8 * (n / 256) := by
  apply Nat.eq_of_testBit_eq
  intro i
  rw [Nat.testBit_xor, show (256 : Nat) = 2 ^ 8 from rfl, Nat.testBit_mod_two_pow, Nat.testBit_two_pow_mul, Nat.testBit_div_two_pow]
  by_cases h : i < 8
  · have : ¬ 8 ≤ i := by omega
    simp [h, this]
  · have h8 : 8 ≤ i := by omega
    rw [Nat.sub_add_cancel h8]
    simp [h, h8]
theorem own_zero (n : Nat) (hn : n < 65536) : lowB 40961 (lowB 40961 n (n % 256)) (n / 256) = 0 := by
  unfold lowB
  rw [xor_low, lowN_shift, Nat.xor_self]
  decide
theorem crc00 (y : List Int) : crc (lowB 40961) 0 ([0, 0] ++ y) = crc (lowB 40961) 0 y := by
  rw [crc_app]
  congr 1
theorem crc_lt (xs : List Int) (h : b8 xs) : crc (lowB 40961) 0 xs < 65536 := fold16_lt xs h _
theorem Own.lit (w : World) (base : Nat) (hb : base ≤ w.heap.size) (xs : List Int) (hl : xs.length ≤ maxLen) : Own (w.alloc (.cells (u8s xs).toArray 5)) base 5 1 (some ⟨w.heap.size, 0, none⟩) xs.length xs.length (u8s xs) := by
  have := Own.made (e := 5) (size := 1) w hb (u8s xs).toArray xs.length xs.length (Nat.le_refl _) hl (by simp)
  rw [show ((u8s xs).toArray.toList.take (xs.length * 1)) = u8s xs by rw [Nat.mul_one]; exact List.take_of_length_le (by simp)] at this
  exact this
theorem two_le : 2 ≤ maxLen := by decide
theorem b8_app {a b : List Int} (ha : b8 a) (hb : b8 b) : b8 (a ++ b) := fun x hx => by
  rcases List.mem_append.1 hx with h | h
  · exact ha x h
  · exact hb x h
set_option maxRecDepth 100000 in
set_option maxHeartbeats 8000000 in
theorem parts_any (A1 : Option Addr) (n1 c1 : Nat) (xs1 : List Int) (A2 : Option Addr) (n2 c2 : Nat) (xs2 : List Int) (w : World)
    (hx1 : xs1.length = n1) (hn1 : n1 ≤ c1) (hc1 : c1 ≤ maxLen) (hr1 : Rd w w.heap.size A1 (u8s xs1)) (hA1 : A1 = none → n1 = 0 ∧ c1 = 0) (hu1 : b8 xs1)
    (hx2 : xs2.length = n2) (hn2 : n2 ≤ c2) (hc2 : c2 ≤ maxLen) (hr2 : Rd w w.heap.size A2 (u8s xs2)) (hA2 : A2 = none → n2 = 0 ∧ c2 = 0) (hu2 : b8 xs2) :
    Calls Try.prog 13 #[.slice A1 n1 c1, .slice A2 n2 c2] w fun e w' => e = .returned (.bool true) ∧ Below w.heap.size w w' := by
  obtain ⟨N1, hN1⟩ : ∃ N, min n1 300 = N := ⟨_, rfl⟩
  obtain ⟨N2, hN2⟩ : ∃ N, min n2 300 = N := ⟨_, rfl⟩
  obtain ⟨s1, hs1, hrs1, hus1⟩ := few_rd hx1 hr1 hu1 N1 hN1
  obtain ⟨s2, hs2, hrs2, hus2⟩ := few_rd hx2 hr2 hu2 N2 hN2
  have FW1 := Lib.hid fun (W : World) => few3_any A1 n1 c1 W hn1 (by omega) hA1
  have FW2 := Lib.hid fun (W : World) => few3_any A2 n2 c2 W hn2 (by omega) hA2
  rw [hN1] at FW1
  rw [hN2] at FW2
  have R1 := Lib.hid fun (W : World) (hW : Below w.heap.size w W) => (hrs1.below hW).more hW.size
  have R2 := Lib.hid fun (W : World) (hW : Below w.heap.size w W) => (hrs2.below hW).more hW.size
  have HL1 := Lib.hid hs1
  have HL2 := Lib.hid hs2
  obtain ⟨n, hn⟩ : ∃ n, crc (lowB 40961) 0 s1 = n := ⟨_, rfl⟩
  have hnl : n < 65536 := by rw [← hn]; exact crc_lt s1 hus1
  obtain ⟨lo, hlo⟩ : ∃ lo, n % 256 = lo := ⟨_, rfl⟩
  obtain ⟨hi, hhi⟩ : ∃ hi, n / 256 = hi := ⟨_, rfl⟩
  have hlh : b8 [(lo : Int), (hi : Int)] := fun x hx => by
    simp at hx
    rcases hx with rfl | rfl <;> omega
  have h00 : b8 [(0 : Int), 0] := fun x hx => by
    simp at hx
    omega
  obtain ⟨z, hz⟩ : ∃ z, crc (lowB 40961) 0 s2 = z := ⟨_, rfl⟩
  have hown : crc (lowB 40961) 0 (s1 ++ [(lo : Int), (hi : Int)]) = 0 := by
    rw [crc_app, hn, crc_cons, crc_cons]
    show lowB 40961 (lowB 40961 n (lo : Int).toNat) (hi : Int).toNat = 0
    rw [Int.toNat_natCast, Int.toNat_natCast, ← hlo, ← hhi]
    exact own_zero n hnl
  have hof : crc (lowB 40961) 0 ([0, 0] ++ s2) = z := by rw [crc00, hz]
  obtain ⟨m, hm⟩ : ∃ m, crc (lowB 40961) 0 ([(lo : Int), (hi : Int)] ++ s2) = m := ⟨_, rfl⟩
  have hmz : n = 0 → m = z := fun h => by
    have h1 : lo = 0 := by omega
    have h2 : hi = 0 := by omega
    rw [← hm, h1, h2]
    exact hof
  obtain ⟨a, ha⟩ : ∃ a, crc (lowB 40961) 0 (s1 ++ ([0, 0] ++ s2)) = a := ⟨_, rfl⟩
  have haz : n = 0 → a = z := fun h => by
    rw [← ha, crc_app, hn, h]
    exact hof
  have O1 := Lib.hid fun (W : World) (hW : Below w.heap.size w W) => of_any 7 A1 N1 c1 s1 true W hs1 (R1.out W hW) (fun h => by have := hA1 h; omega) (by omega) (by omega) hc1 hus1
  have O2 := Lib.hid fun (W : World) (hW : Below w.heap.size w W) => of_any 7 A2 N2 c2 s2 false W hs2 (R2.out W hW) (fun h => by have := hA2 h; omega) (by omega) (by omega) hc2 hus2
  have OM := Lib.hid fun (W : World) (A : Option Addr) (c : Nat) (h : Own W w.heap.size 5 1 A (2 + N2) c (u8s ([(lo : Int), (hi : Int)] ++ s2))) => of_own 7 A (2 + N2) c _ true W h (by rw [List.length_append, hs2]; rfl) (by omega) (b8_app hlh hus2)
  have OA := Lib.hid fun (W : World) (A : Option Addr) (c : Nat) (h : Own W w.heap.size 5 1 A (N1 + (2 + N2)) c (u8s (s1 ++ ([0, 0] ++ s2)))) => of_own 7 A (N1 + (2 + N2)) c _ true W h (by rw [List.length_append, List.length_append, hs1, hs2]; rfl) (by omega) (b8_app hus1 (b8_app h00 hus2))
  have OW := Lib.hid fun (W : World) (A : Option Addr) (c : Nat) (h : Own W w.heap.size 5 1 A (N1 + 2) c (u8s (s1 ++ [(lo : Int), (hi : Int)]))) => of_own 7 A (N1 + 2) c _ true W h (by rw [List.length_append, hs1]; rfl) (by omega) (b8_app hus1 hlh)
  have OZ := Lib.hid fun (W : World) (A : Option Addr) (c : Nat) (h : Own W w.heap.size 5 1 A (2 + N2) c (u8s ([0, 0] ++ s2))) => of_own 7 A (2 + N2) c _ true W h (by rw [List.length_append, hs2]; rfl) (by omega) (b8_app h00 hus2)
  unfold OfP at O1 O2 OM OA OW OZ
  rw [sum7 _ _ hus1, hn] at O1
  rw [sum7 _ _ hus2, hz] at O2
  rw [sum7 _ _ (b8_app hlh hus2), hm] at OM
  rw [sum7 _ _ (b8_app hus1 (b8_app h00 hus2)), ha] at OA
  rw [sum7 _ _ (b8_app hus1 hlh), hown] at OW
  rw [sum7 _ _ (b8_app h00 hus2), hof] at OZ
  have c8l : IntKind.u8.wrap (n : Int) = (lo : Int) := by rw [IntKind.wrap_u8]; omega
  have c8d : (n : Int) / 256 = (hi : Int) := by omega
  have c8h : IntKind.u8.wrap (hi : Int) = (hi : Int) := by rw [IntKind.wrap_u8]; omega
  have HMZ := Lib.hid hmz
  have HAZ := Lib.hid haz
  have hN13 : N1 ≤ 300 := by omega
  have hN23 : N2 ≤ 300 := by omega
  clear hn hm ha hz hown hof hmz haz hlo hhi hnl hlh h00 hN1 hN2 hx1 hx2 hr1 hr2 hA1 hA2 hu1 hu2 hrs1 hrs2 hus1 hus2 hs1 hs2
  go_enter Try.func13, Try.ntmps13
  go_wp2_with fail
  refine (shown5_any w).mono ?_
  rintro e w1 ⟨rfl, hb1⟩
  go_wp2_with fail
  refine (FW1.out w1).mono ?_
  rintro e w' ⟨rfl, rfl⟩
  go_wp2_with fail
  refine (FW2.out w1).mono ?_
  rintro e w' ⟨rfl, rfl⟩
  go_wp2_with fail
  refine (O1.out _ hb1).mono ?_
  rintro e w2 ⟨rfl, hb2⟩
  have hb3 := hb1.trans (hb2.mono hb1.size)
  have hz3 := hb3.size
  clear hb1 hb2
  go_wp2_with (at_builtin; refine wpList_app8 rfl (.tmp 36) (.tmp 37) rfl w.heap.size _ 2 _ _ rfl (Own.lit _ _ hz3 [(lo : Int), (hi : Int)] two_le) _ N2 c2 s2 rfl HL2.out (R2.out _ (hb3.alloc hz3 _)) (by omega) (hb3.alloc hz3 _).size ?_; intro B1 d1 w3 ho3 hb4; have hb5 := (hb3.alloc hz3 _).trans hb4)
  refine (OM.out _ _ _ ho3).mono ?_
  rintro e w4 ⟨rfl, hb6⟩
  have hb7 := hb5.trans (hb6.mono hb5.size)
  have hz7 := hb7.size
  clear ho3 hb4 hb5 hb6 hb3 hz3
  go_wp2_with (first
    | (at_builtin; refine wpList_app8 rfl (.tmp 43) (.tmp 44) rfl w.heap.size _ 0 0 [] rfl (Own.zero _ _ hz7) _ N1 c1 s1 rfl HL1.out (R1.out _ (hb7.alloc hz7 _)) (by omega) (hb7.alloc hz7 _).size ?_; intro B2 d2 w5 ho5 hb8; rw [Nat.zero_add, List.nil_append] at ho5; have hb9 := (hb7.alloc hz7 _).trans hb8; have hz9 := hb9.size)
    | (at_builtin; refine wpList_app8 rfl (.tmp 46) (.tmp 47) rfl w5.heap.size _ 2 _ _ rfl (Own.lit _ _ (Nat.le_refl _) [(0 : Int), 0] two_le) _ N2 c2 s2 rfl HL2.out (R2.out _ (hb9.alloc hz9 _)) (by omega) (by simp) ?_; intro B3 d3 w6 ho6 hb10; have hb11 := (hb9.alloc hz9 _).trans (hb10.mono hz9); have ho7 := ho5.below ((bl1 _ _).trans hb10))
    | (at_builtin; refine wpList_app8 rfl (.tmp 45) (.tmp 48) rfl w.heap.size _ N1 _ s1 rfl ho7 _ (2 + N2) _ _ rfl (by rw [List.length_append, HL2.out]; rfl) ho6.rd (by omega) hb11.size ?_; intro B4 d4 w7 ho8 hb12; have hb13 := hb11.trans hb12))
  refine (OA.out _ _ _ ho8).mono ?_
  rintro e w8 ⟨rfl, hb14⟩
  have hb15 := hb13.trans (hb14.mono hb13.size)
  have hz15 := hb15.size
  clear ho5 ho6 ho7 ho8 hb8 hb9 hb10 hb11 hb12 hb13 hb14 hb7 hz7 hz9
  go_wp2_with (first
    | (at_builtin; refine wpList_app8 rfl (.tmp 54) (.tmp 55) rfl w.heap.size _ 0 0 [] rfl (Own.zero _ _ hz15) _ N1 c1 s1 rfl HL1.out (R1.out _ (hb15.alloc hz15 _)) (by omega) (hb15.alloc hz15 _).size ?_; intro B5 d5 w9 ho5 hb8; rw [Nat.zero_add, List.nil_append] at ho5; have hb9 := (hb15.alloc hz15 _).trans hb8; have hz9 := hb9.size)
    | (at_builtin; refine wpList_app8 rfl (.tmp 56) (.tmp 62) rfl w.heap.size _ N1 _ s1 rfl (ho5.alloc _) _ 2 _ [(lo : Int), (hi : Int)] rfl rfl (Own.lit _ 0 (Nat.zero_le _) [(lo : Int), (hi : Int)] two_le).rd (by omega) (hb9.alloc hz9 _).size ?_; intro B6 d6 w10 ho6 hb10; have hb11 := (hb9.alloc hz9 _).trans hb10))
  refine (OW.out _ _ _ ho6).mono ?_
  rintro e w11 ⟨rfl, hb12⟩
  have hb13 := hb11.trans (hb12.mono hb11.size)
  have hz13 := hb13.size
  clear ho5 ho6 hb8 hb9 hb10 hb11 hb12 hb15 hz15 hz9
  go_wp2_with (at_builtin; refine wpList_app8 rfl (.tmp 68) (.tmp 69) rfl w.heap.size _ 2 _ _ rfl (Own.lit _ _ hz13 [(0 : Int), 0] two_le) _ N2 c2 s2 rfl HL2.out (R2.out _ (hb13.alloc hz13 _)) (by omega) (hb13.alloc hz13 _).size ?_; intro B7 d7 w12 ho3 hb4; have hb5 := (hb13.alloc hz13 _).trans hb4)
  refine (OZ.out _ _ _ ho3).mono ?_
  rintro e w13 ⟨rfl, hb6⟩
  have hb7 := hb5.trans (hb6.mono hb5.size)
  clear ho3 hb4 hb5 hb6 hb13 hz13
  go_wp2_with fail
  refine (O2.out _ hb7).mono ?_
  rintro e w14 ⟨rfl, hb8⟩
  have hb9 := hb7.trans (hb8.mono hb7.size)
  go_upto_region 9 with fail
  by_cases hn0 : n = 0
  · obtain rfl := HMZ.out hn0
    obtain rfl := HAZ.out hn0
    subst hn0
    go_wp2_with fail
    go_ret
    exact ⟨rfl, hb9⟩
  · have hn0b : ((n : Int) != 0) = true := by rw [bne_iff_ne]; omega
    go_wp2_with fail
    go_ret
    exact ⟨rfl, hb9⟩
end Go.Proofs.Ytpfcmepiiphbiaa
