/- SumOrder: the walk. -/
import Derived.Test.YtpfcmepiiphbiaaS7
namespace Go.Proofs.Ytpfcmepiiphbiaa
open Go.RowKit
set_option linter.unusedVariables false
set_option linter.unusedSimpArgs false
set_option maxRecDepth 100000 in
set_option maxHeartbeats 8000000 in
theorem order_any (kd : Nat) (A1 : Option Addr) (n1 c1 : Nat) (xs1 : List Int) (A2 : Option Addr) (n2 c2 : Nat) (xs2 : List Int) (big : Bool) (w : World) (hkd : kd < 256)
    (hx1 : xs1.length = n1) (hn1 : n1 ≤ c1) (hc1 : c1 ≤ maxLen) (hr1 : Rd w w.heap.size A1 (u8s xs1)) (hA1 : A1 = none → n1 = 0 ∧ c1 = 0) (hu1 : b8 xs1)
    (hx2 : xs2.length = n2) (hn2 : n2 ≤ c2) (hc2 : c2 ≤ maxLen) (hr2 : Rd w w.heap.size A2 (u8s xs2)) (hA2 : A2 = none → n2 = 0 ∧ c2 = 0) (hu2 : b8 xs2) :
    Calls Try.prog 9 #[.int .u8 kd, .slice A1 n1 c1, .slice A2 n2 c2, .bool big] w fun e w' => e = .returned (.bool true) ∧ Below w.heap.size w w' := by
  obtain ⟨N1, q1, X1, s1, hN1, hq1, hX1, hXN1, h300, hNn1, hs1, hrs1, hus1⟩ := few_cut hx1 hr1 hu1
  obtain ⟨N2, q2, X2, s2, hN2, hq2, hX2, hXN2, h300', hNn2, hs2, hrs2, hus2⟩ := few_cut hx2 hr2 hu2
  obtain ⟨j, hj⟩ : ∃ j, kd % 6 = j := ⟨_, rfl⟩
  obtain ⟨k, hk⟩ : ∃ k, j + 1 = k := ⟨_, rfl⟩
  have hk6 : 1 ≤ k ∧ k ≤ 6 := by omega
  obtain ⟨p, q, hp, hq, hpq, hqp, hpl, hql⟩ := order_law k hk6 s1 s2 big (by omega) (by omega)
  obtain ⟨M, hM⟩ : ∃ M, wideK k = M := ⟨_, rfl⟩
  have hMl : 0 < M ∧ M ≤ 4294967296 := by
    rw [← hM]
    unfold wideK
    split
    · omega
    · split <;> omega
  have hMM : (#[Value.int .u64 256, .int .u64 65536, .int .u64 4294967296, .int .u64 65536, .int .u64 4294967296, .int .u64 4294967296] : Array Value)[j]? = some (.int .u64 M) := by
    subst hk
    obtain rfl | rfl | rfl | rfl | rfl | rfl : j = 0 ∨ j = 1 ∨ j = 2 ∨ j = 3 ∨ j = 4 ∨ j = 5 := by omega
    all_goals (subst hM; rfl)
  rw [hM] at hpq hqp hpl hql
  obtain ⟨F, hF⟩ : ∃ F, (p + q) % M = F := ⟨_, rfl⟩
  rw [hF] at hpq hqp
  have FW1 := Lib.hid fun (W : World) => few3_any A1 n1 c1 W hn1 (by omega) hA1
  have FW2 := Lib.hid fun (W : World) => few3_any A2 n2 c2 W hn2 (by omega) hA2
  rw [hN1] at FW1
  rw [hN2] at FW2
  have R1 := Lib.hid fun (W : World) (hW : Below w.heap.size w W) => (hrs1.below hW).more hW.size
  have R2 := Lib.hid fun (W : World) (hW : Below w.heap.size w W) => (hrs2.below hW).more hW.size
  have HL1 := Lib.hid hs1
  have HL2 := Lib.hid hs2
  have O1 := Lib.hid fun (W : World) (hW : Below w.heap.size w W) => of_any k A1 X1 c1 s1 big W hs1 (R1.out W hW) (fun h => by have := hA1 h; omega) (by omega) (by omega) hc1 hus1
  have O2 := Lib.hid fun (W : World) (hW : Below w.heap.size w W) => of_any k A2 X2 c2 s2 big W hs2 (R2.out W hW) (fun h => by have := hA2 h; omega) (by omega) (by omega) hc2 hus2
  have O12 := Lib.hid fun (W : World) (A : Option Addr) (c : Nat) (h : Own W w.heap.size 5 1 A (X1 + X2) c (u8s (s1 ++ s2))) => of_own k A (X1 + X2) c (s1 ++ s2) big W h (by rw [List.length_append, hs1, hs2]) (by omega) (fun x hx => by rcases List.mem_append.1 hx with h | h; exact hus1 x h; exact hus2 x h)
  have O21 := Lib.hid fun (W : World) (A : Option Addr) (c : Nat) (h : Own W w.heap.size 5 1 A (X2 + X1) c (u8s (s2 ++ s1))) => of_own k A (X2 + X1) c (s2 ++ s1) big W h (by rw [List.length_append, hs1, hs2]) (by omega) (fun x hx => by rcases List.mem_append.1 hx with h | h; exact hus2 x h; exact hus1 x h)
  unfold OfP at O1 O2 O12 O21
  rw [hp] at O1
  rw [hq] at O2
  rw [hpq] at O12
  rw [hqp] at O21
  have e0 : (kd : Int) % 6 = (j : Int) := by omega
  have e1 : IntKind.u8.wrap ((j : Int) + 1) = (k : Int) := by rw [IntKind.wrap_u8]; omega
  have e2 : IntKind.u8.wrap ((k : Int) - 1) = (j : Int) := by rw [IntKind.wrap_u8]; omega
  have d1 : (N1 : Int) / 4 = (q1 : Int) := by omega
  have d2 : (N2 : Int) / 4 = (q2 : Int) := by omega
  have m1 : IntKind.i64.wrap ((q1 : Int) * 4) = (X1 : Int) := by rw [IntKind.wrap_i64]; omega
  have m2 : IntKind.i64.wrap ((q2 : Int) * 4) = (X2 : Int) := by rw [IntKind.wrap_i64]; omega
  have l1 : (X1 : Int) ≤ c1 := by omega
  have l2 : (X2 : Int) ≤ c2 := by omega
  have hFl : F < 4294967296 := by have := Nat.mod_lt (p + q) hMl.1; omega
  have cF := conv64 F hFl
  have cp := conv64 p (by omega)
  have cq := conv64 q (by omega)
  have cpq : IntKind.u64.wrap ((p : Int) + q) = (p : Int) + q := by rw [IntKind.wrap_u64]; omega
  have cm : ((p : Int) + q) % M = (F : Int) := by rw [← hF, Int.natCast_emod, Int.natCast_add]
  have cM : ¬ (M : Int) = 0 := by omega
  have HM := Lib.hid hMM
  have hj6 : (j : Int) < 6 := by omega
  have hXX : X1 + X2 ≤ 600 := by omega
  clear hp hq hpq hqp hF hM hMM hMl hFl hk hk6 hj hkd hx1 hx2 hr1 hr2 hA1 hA2 hu1 hu2 hN1 hN2 hq1 hq2 hX1 hX2 hrs1 hrs2 hus1 hus2 hs1 hs2 hpl hql
  go_enter Try.func9, Try.ntmps9
  go_wp2_with fail
  refine (shown5_any w).mono ?_
  rintro e w1 ⟨rfl, hb1⟩
  go_wp2_with fail
  refine (FW1.out w1).mono ?_
  rintro e w' ⟨rfl, rfl⟩
  go_wp2_with fail
  refine (FW2.out w1).mono ?_
  rintro e w' ⟨rfl, rfl⟩
  go_wp2_with fail
  go_quiet (fail)
  all_goals
    have hbq := bel_drewN hb1 nq
    have hzq := hbq.size
    go_wp2_with (first
      | (at_builtin; refine wpList_app8 rfl (.tmp 44) (.tmp 45) rfl w.heap.size _ 0 0 [] rfl (Own.zero _ _ hzq) _ X1 c1 s1 rfl HL1.out (R1.out _ (hbq.alloc hzq _)) (by omega) (hbq.alloc hzq _).size ?_; intro B1 d1 w2 ho2 hb2; rw [Nat.zero_add, List.nil_append] at ho2; have hb3 := (hbq.alloc hzq _).trans hb2)
      | (at_builtin; refine wpList_app8 rfl (.tmp 46) (.tmp 47) rfl w.heap.size _ X1 _ s1 rfl ho2 _ X2 c2 s2 rfl HL2.out (R2.out _ hb3) (by omega) hb3.size ?_; intro B2 d2 w3 ho3 hb4; have hb5 := hb3.trans hb4))
    refine (O12.out _ _ _ ho3).mono ?_
    rintro e w4 ⟨rfl, hb6⟩
    have hb7 := hb5.trans (hb6.mono hb5.size)
    have hz7 := hb7.size
    clear ho2 ho3 hb2 hb3 hb4 hb5 hb6
    go_wp2_with (first
      | (at_builtin; refine wpList_app8 rfl (.tmp 55) (.tmp 56) rfl w.heap.size _ 0 0 [] rfl (Own.zero _ _ hz7) _ X2 c2 s2 rfl HL2.out (R2.out _ (hb7.alloc hz7 _)) (by omega) (hb7.alloc hz7 _).size ?_; intro B3 d3 w5 ho2 hb2; rw [Nat.zero_add, List.nil_append] at ho2; have hb3 := (hb7.alloc hz7 _).trans hb2)
      | (at_builtin; refine wpList_app8 rfl (.tmp 57) (.tmp 58) rfl w.heap.size _ X2 _ s2 rfl ho2 _ X1 c1 s1 rfl HL1.out (R1.out _ hb3) (by omega) hb3.size ?_; intro B4 d4 w6 ho3 hb4; have hb5 := hb3.trans hb4))
    refine (O21.out _ _ _ ho3).mono ?_
    rintro e w7 ⟨rfl, hb6⟩
    have hb8 := hb5.trans (hb6.mono hb5.size)
    clear ho2 ho3 hb2 hb3 hb4 hb5 hb6
    go_wp2_with fail
    refine (O1.out _ hb8).mono ?_
    rintro e w8 ⟨rfl, hb9⟩
    have hb10 := hb8.trans (hb9.mono hb8.size)
    go_wp2_with fail
    refine (O2.out _ hb10).mono ?_
    rintro e w9 ⟨rfl, hb11⟩
    have hb12 := hb10.trans (hb11.mono hb10.size)
    have hz12 := hb12.size
    have c9 := ((Blk.new w9 22 _).cell j).trans HM.out
    go_wp2_with fail
    go_ret
    exact ⟨rfl, hb12.alloc hz12 _⟩
end Go.Proofs.Ytpfcmepiiphbiaa
