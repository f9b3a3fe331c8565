/- The examples, 'few' and 'mask'; NumSigns. -/
import Derived.Test.YtpfcmepiiphbiaaRPut
import Derived.Test.YtpfcmepiiphbiaaRTake
namespace Go.Proofs.Ytpfcmepiiphbiaa
open Go.RowKit
set_option linter.unusedVariables false
set_option linter.unusedSimpArgs false
theorem few_any (A : Option Addr) (n c : Nat) (w : World) (hn : n ≤ c) (hl : n ≤ maxLen) (hA : A = none → n = 0 ∧ c = 0) :
    Calls Try.prog 22 #[.slice A n c] w fun e w' => e = .returned (.slice A (min n 20) c) ∧ w = w' := by
  unfold maxLen at hl
  cases A with
  | none =>
    obtain ⟨rfl, rfl⟩ := hA rfl
    go_enter Try.func22, Try.ntmps22
    go_wp2
    go_ret
    exact ⟨rfl, rfl⟩
  | some a =>
    by_cases h : n ≤ 20
    · have e : min n 20 = n := by omega
      have e2 : min (n : Int) 20 = (n : Int) := by omega
      have h' : (n : Int) ≤ 20 := by omega
      rw [e]
      clear hA e
      go_enter Try.func22, Try.ntmps22
      go_wp2
      go_ret
      exact ⟨rfl, rfl⟩
    · have e : min n 20 = 20 := by omega
      have e2 : min (n : Int) 20 = 20 := by omega
      have h' : (20 : Int) ≤ n := by omega
      rw [e]
      clear hA e
      go_enter Try.func22, Try.ntmps22
      go_wp2
      go_ret
      exact ⟨rfl, rfl⟩
def maskV (m : Nat) : Int := (256 : Int) ^ m - 1
theorem mask_any (m : Nat) (w : World) (hw : isW m = true) : Calls Try.prog 16 #[.int .i64 m] w fun e w' => e = .returned (.int .u64 (maskV m)) ∧ w = w' := by
  have hm : m = 1 ∨ m = 2 ∨ m = 4 ∨ m = 8 := by have := isW_cases hw; omega
  rcases hm with rfl | rfl | rfl | rfl
  all_goals
    clear hw
    go_enter Try.func16, Try.ntmps16
    go_wp2
    go_ret
    exact ⟨ret_int (by decide), rfl⟩
theorem shown_any (w : World) : Calls Try.prog 15 #[] w fun e w' => e = .returned (.bool true) ∧ Below w.heap.size w w' := by
  have CP : Hid (∀ W, Calls Try.prog 17 #[.slice none 0 0, .int .u64 258, .int .i64 2, .bool true] W fun e w' => ∃ A c, e = .returned (.tuple #[.slice A 2 c, .int .i64 0]) ∧ (∀ w2, Below w'.heap.size w' w2 → (convert 25 9 (.slice A 2 c)).run Try.prog w2 = .ok (.string (bstr [1, 2])) w2) ∧ Below W.heap.size W w') := fun W => by
    refine (put_any none 0 0 [] 258 2 true W rfl rfl Rd.nil (by omega) (by omega) (by omega)).mono ?_
    rintro e w' ⟨A, c, rfl, hown, hb⟩
    exact ⟨A, c, rfl, hown.conv Try.underlying25 Try.underlying5 Try.underlying9 rfl, hb⟩
  have CS : Hid (∀ W, Calls Try.prog 18 #[.int .u64 255, .int .i64 1] W fun e w' => e = .returned (.tuple #[.int .i64 (-1), .bool true]) ∧ W = w') := fun W => signed_any 255 1 W (by omega) (by omega)
  have hs : (bstr [1, 2]).toList = [1, 2] := by rw [bstr_toList]; rfl
  go_enter Try.func15, Try.ntmps15
  go_wp2_with fail
  refine (CP.out _).mono ?_
  rintro e w1 ⟨A, c, rfl, hc, hb⟩
  have z := Below.refl w1.heap.size w1
  go_wp2_with fail
  refine (CS.out _).mono ?_
  rintro e w' ⟨rfl, rfl⟩
  go_wp2_with fail
  go_ret
  exact ⟨rfl, hb⟩
theorem signs_any (v x n : Int) (s : Bool) (w : World) (h0 : 0 ≤ v) (h1 : v < 18446744073709551616) (h2 : -9223372036854775808 ≤ x) (h3 : x ≤ 9223372036854775807) :
    Calls Try.prog 4 #[.int .u64 v, .int .i64 x, .int .i64 n, .bool s] w fun e w' => e = .returned (.bool true) ∧ Below w.heap.size w w' := by
  have C1 := Lib.hid (fun W => signed_any v n W h0 h1)
  have C2 := Lib.hid (fun W => rsigned_any v n W h0 h1)
  have C3 := Lib.hid (fun W => fits_any x n s W h2 h3)
  have C4 := Lib.hid (fun W => rfits_any x n s W h2 h3)
  generalize (if isW n = true then sgn v (mod8 n) else 0) = a at *
  generalize isW n = b at *
  generalize fits x n s = f at *
  go_enter Try.func4, Try.ntmps4
  go_wp2_with fail
  refine (C1.out _).mono ?_
  rintro e w' ⟨rfl, rfl⟩
  go_wp2_with fail
  refine (C2.out _).mono ?_
  rintro e w' ⟨rfl, rfl⟩
  go_wp2_with fail
  refine (shown_any _).mono ?_
  rintro e w1 ⟨rfl, hb⟩
  go_wp2_with fail
  refine (C3.out _).mono ?_
  rintro e w' ⟨rfl, rfl⟩
  go_wp2_with fail
  refine (C4.out _).mono ?_
  rintro e w' ⟨rfl, rfl⟩
  go_wp2_with fail
  go_ret
  exact ⟨rfl, hb⟩
end Go.Proofs.Ytpfcmepiiphbiaa
