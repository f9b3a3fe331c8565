/- SumTells: the walk. -/
import Derived.Test.YtpfcmepiiphbiaaS3
import Derived.Test.YtpfcmepiiphbiaaS5
namespace Go.Proofs.Ytpfcmepiiphbiaa
open Go.RowKit
set_option linter.unusedVariables false
set_option linter.unusedSimpArgs false
/-- The first 300 bytes, as the laws take them. -/
theorem few_rd {w : World} {A : Option Addr} {n : Nat} {xs : List Int} (hx : xs.length = n) (hr : Rd w w.heap.size A (u8s xs)) (hu : b8 xs) (N : Nat) (hN : min n 300 = N) :
    ∃ s, s.length = N ∧ Rd w w.heap.size A (u8s s) ∧ b8 s :=
  ⟨xs.take N, by rw [List.length_take]; omega, hr.take' N, fun x hx' => hu x (List.mem_of_mem_take hx')⟩
set_option maxHeartbeats 4000000 in
theorem tells_any (k : Nat) (A : Option Addr) (n c : Nat) (xs : List Int) (big : Bool) (w : World) (hx : xs.length = n) (hn : n ≤ c) (hc : c ≤ maxLen) (hr : Rd w w.heap.size A (u8s xs)) (hA : A = none → n = 0 ∧ c = 0) (hu : b8 xs) :
    Calls Try.prog 14 #[.int .u8 k, .slice A n c, .bool big] w fun e w' => e = .returned (.bool true) ∧ Below w.heap.size w w' := by
  obtain ⟨N, hN⟩ : ∃ N, min n 300 = N := ⟨_, rfl⟩
  obtain ⟨s, hs, hrs, hus⟩ := few_rd hx hr hu N hN
  have FW := Lib.hid fun (W : World) => few3_any A n c W hn (by omega) hA
  rw [hN] at FW
  have hAN : A = none → N = 0 ∧ c = 0 := fun h => by have := hA h; omega
  have OF := Lib.hid fun (W : World) (hW : Below w.heap.size w W) => of_any k A N c s big W hs ((hrs.below hW).more hW.size) hAN (by omega) (by omega) hc hus
  have RF := Lib.hid fun (W : World) (hW : Below w.heap.size w W) => rof_any k A N c s big W hs ((hrs.below hW).more hW.size) (by omega) (by omega) hc hus
  obtain ⟨V, hV⟩ : ∃ V, sumV k s big = V := ⟨_, rfl⟩
  obtain ⟨v, e⟩ := V
  unfold OfP at OF RF
  rw [hV] at OF RF
  have WD := Lib.hid (word_any k)
  have RWD := Lib.hid (rword_any k)
  obtain ⟨wd, hwd⟩ : ∃ wd, wdK k = wd := ⟨_, rfl⟩
  rw [hwd] at WD RWD
  clear hV hwd hr hx hu hrs hs hus hN hA hAN
  go_enter Try.func14, Try.ntmps14
  go_wp2_with fail
  refine (FW.out w).mono ?_
  rintro e1 w' ⟨rfl, rfl⟩
  go_wp2_with fail
  refine (OF.out w (Below.refl _ _)).mono ?_
  rintro e1 w1 ⟨rfl, hb1⟩
  have hz1 := hb1.size
  go_wp2_with fail
  refine (FW.out w1).mono ?_
  rintro e1 w' ⟨rfl, rfl⟩
  go_wp2_with fail
  refine (RF.out w1 hb1).mono ?_
  rintro e1 w2 ⟨rfl, hb2⟩
  have hb3 := hb1.trans (hb2.mono hz1)
  go_wp2_with fail
  refine (shown5_any _).mono ?_
  rintro e1 w3 ⟨rfl, hb4⟩
  have hb5 := hb3.trans (hb4.mono hb3.size)
  go_wp2_with fail
  refine (WD.out _).mono ?_
  rintro e1 w5 ⟨rfl, hb6⟩
  have hb7 := hb5.trans (hb6.mono hb5.size)
  go_wp2_with fail
  refine (RWD.out _).mono ?_
  rintro e1 w' ⟨rfl, rfl⟩
  go_wp2_with fail
  go_ret
  exact ⟨rfl, hb7⟩
end Go.Proofs.Ytpfcmepiiphbiaa
