/- SumZeros: the walk. -/
import Derived.Test.YtpfcmepiiphbiaaS9
namespace Go.Proofs.Ytpfcmepiiphbiaa
open Go.RowKit Go.Maps
set_option linter.unusedVariables false
set_option linter.unusedSimpArgs false
set_option maxRecDepth 100000 in
set_option maxHeartbeats 8000000 in
theorem zeros_any (kd : Nat) (A1 : Option Addr) (n1 c1 : Nat) (xs1 : List Int) (mn : Nat) (w : World) (hkd : kd < 256) (hmn : mn < 256)
    (hx1 : xs1.length = n1) (hn1 : n1 ≤ c1) (hc1 : c1 ≤ maxLen) (hr1 : Rd w w.heap.size A1 (u8s xs1)) (hA1 : A1 = none → n1 = 0 ∧ c1 = 0) (hu1 : b8 xs1) :
    Calls Try.prog 12 #[.int .u8 kd, .slice A1 n1 c1, .int .u8 mn] w fun e w' => e = .returned (.bool true) ∧ Below w.heap.size w w' := by
  obtain ⟨N1, q1, X1, s1, hN1, hq1, hX1, hXN1, h300, hNn1, hs1, hrs1, hus1⟩ := few_cut hx1 hr1 hu1
  obtain ⟨j, hj⟩ : ∃ j, kd % 9 = j := ⟨_, rfl⟩
  obtain ⟨k, hk⟩ : ∃ k, j + 1 = k := ⟨_, rfl⟩
  have hk9 : 1 ≤ k ∧ k ≤ 9 := by omega
  obtain ⟨y, hy⟩ : ∃ y, mn % 9 = y := ⟨_, rfl⟩
  obtain ⟨Z, hZ⟩ : ∃ Z, 4 * y = Z := ⟨_, rfl⟩
  have hz8 : b8 (List.replicate Z 0) := fun x hx => by rw [List.eq_of_mem_replicate hx]; decide
  have hus2 : b8 (List.replicate Z 0 ++ s1) := fun x hx => by rcases List.mem_append.1 hx with h | h; exact hz8 x h; exact hus1 x h
  obtain ⟨F1, hF1⟩ := sum_ok k hk9 s1 true (by omega)
  obtain ⟨F2, hF2⟩ := sum_ok k hk9 (List.replicate Z 0 ++ s1) true (by rw [List.length_append, List.length_replicate]; omega)
  have hF12 : k ≠ 8 → k ≠ 9 → F2 = F1 := fun h8 h9 => by
    have := zeros_law k hk9 h8 h9 s1 true (by omega) hus1 Z (by omega)
    rw [hF1, hF2] at this
    exact congrArg Prod.fst this
  have hF3 := none_law k hk9
  have MR := Lib.hid fun (W : World) => map8_runs W k hk9
  obtain ⟨F3, hF33⟩ : ∃ F3 : Nat, (if k = 8 then 65535 else 0) = F3 := ⟨_, rfl⟩
  rw [hF33] at hF3 MR
  have FW1 := Lib.hid fun (W : World) => few3_any A1 n1 c1 W hn1 (by omega) hA1
  rw [hN1] at FW1
  have R1 := Lib.hid fun (W : World) (hW : Below w.heap.size w W) => (hrs1.below hW).more hW.size
  have HL1 := Lib.hid hs1
  have O1 := Lib.hid fun (W : World) (hW : Below w.heap.size w W) => of_any k A1 X1 c1 s1 true W hs1 (R1.out W hW) (fun h => by have := hA1 h; omega) (by omega) (by omega) hc1 hus1
  have O2 := Lib.hid fun (W : World) (A : Option Addr) (c : Nat) (h : Own W w.heap.size 5 1 A (Z + X1) c (u8s (List.replicate Z 0 ++ s1))) => of_own k A (Z + X1) c _ true W h (by rw [List.length_append, List.length_replicate, hs1]) (by omega) hus2
  have O3 := Lib.hid fun (W : World) => of_any k none 0 0 [] false W rfl Rd.nil (fun _ => ⟨rfl, rfl⟩) (Nat.le_refl _) (by decide) (by decide) (fun x hx => by cases hx)
  unfold OfP at O1 O2 O3
  rw [hF1] at O1
  rw [hF2] at O2
  rw [hF3] at O3
  have e0 : (kd : Int) % 9 = (j : Int) := by omega
  have e1 : IntKind.u8.wrap ((j : Int) + 1) = (k : Int) := by rw [IntKind.wrap_u8]; omega
  have e2 : (mn : Int) % 9 = (y : Int) := by omega
  have e3 : IntKind.i64.wrap (y : Int) = (y : Int) := by rw [IntKind.wrap_i64]; omega
  have e4 : IntKind.i64.wrap (4 * (y : Int)) = (Z : Int) := by rw [IntKind.wrap_i64]; omega
  have d1 : (N1 : Int) / 4 = (q1 : Int) := by omega
  have m1 : IntKind.i64.wrap ((q1 : Int) * 4) = (X1 : Int) := by rw [IntKind.wrap_i64]; omega
  have l1 : (X1 : Int) ≤ c1 := by omega
  have hZ36 : Z ≤ 36 := by omega
  have HF := Lib.hid hF12
  have hmm := @run_makeMap Try.prog
  clear hF1 hF2 hF3 hF33 hF12 hk hj hkd hmn hx1 hr1 hA1 hu1 hN1 hq1 hX1 hrs1 hus1 hs1 hus2 hz8 hZ hy
  go_enter Try.func12, Try.ntmps12
  go_wp2_with fail
  refine (shown5_any w).mono ?_
  rintro e w1 ⟨rfl, hb1⟩
  go_wp2_with fail
  refine (FW1.out w1).mono ?_
  rintro e w' ⟨rfl, rfl⟩
  go_wp2_with fail
  refine (O1.out _ hb1).mono ?_
  rintro e w2 ⟨rfl, hb2⟩
  have hb3 := hb1.trans (hb2.mono hb1.size)
  go_wp2_with (first
    | (refine wpList_make8 rfl (.tmp 40) (.tmp 40) rfl w.heap.size _ Z rfl rfl rfl (by omega) hb3.size ?_; intro B1 w3 ho3 hb4; have hb5 := hb3.trans hb4)
    | (at_builtin; refine wpList_app8 rfl (.tmp 41) (.tmp 42) rfl w.heap.size _ Z _ _ rfl ho3 _ X1 c1 s1 rfl HL1.out (R1.out _ hb5) (by omega) hb5.size ?_; intro B2 d2 w4 ho4 hb6; have hb7 := hb5.trans hb6))
  refine (O2.out _ _ _ ho4).mono ?_
  rintro e w5 ⟨rfl, hb8⟩
  have hb9 := hb7.trans (hb8.mono hb7.size)
  clear ho3 ho4 hb4 hb5 hb6 hb7 hb8
  go_wp2_with fail
  refine (O3.out _).mono ?_
  rintro e w6 ⟨rfl, hb10⟩
  have hb11 := hb9.trans (hb10.mono hb9.size)
  obtain ⟨wI, run1, blI, look1⟩ := MR.out w6
  have hb12 := hb11.trans (blI.mono hb11.size)
  go_upto_region 9 with fail
  by_cases h8 : k = 8
  · have h8b : ((k : Int) == 8) = true := by rw [beq_iff_eq]; omega
    go_wp2_with fail
    go_ret
    exact ⟨rfl, hb12⟩
  · have h8b : ((k : Int) == 8) = false := by rw [beq_eq_false_iff_ne]; omega
    by_cases h9 : k = 9
    · have h9b : ((k : Int) == 9) = true := by rw [beq_iff_eq]; omega
      go_wp2_with fail
      go_ret
      exact ⟨rfl, hb12⟩
    · have h9b : ((k : Int) == 9) = false := by rw [beq_eq_false_iff_ne]; omega
      obtain rfl := HF.out h8 h9
      go_wp2_with fail
      go_ret
      exact ⟨rfl, hb12⟩
end Go.Proofs.Ytpfcmepiiphbiaa
