/- Widths, signs and fits of numbers: what the program and the reference compute. -/
import Derived.Test.YtmcmlglacblkiaaKit
namespace Go.Proofs.Ytmcmlglacblkiaa
open Go.RowKit
set_option linter.unusedVariables false
set_option linter.unusedSimpArgs false
def isW (n : Int) : Bool := n == 1 || n == 2 || n == 4 || n == 8
theorem isW_cases {n : Int} (h : isW n = true) : n = 1 ∨ n = 2 ∨ n = 4 ∨ n = 8 := by simp [isW] at h; omega
set_option maxHeartbeats 1000000 in
theorem width_any (n : Int) (w : World) : Calls Try.prog 32 #[.int .i64 n] w fun e w' => e = .returned (.bool (isW n)) ∧ w = w' := by
  by_cases h1 : n < 1
  · have e : isW n = false := by simp [isW]; omega
    rw [e]
    go_enter Try.func32, Try.ntmps32
    go_wp2
    go_ret
    exact ⟨rfl, rfl⟩
  · by_cases h8 : 8 < n
    · have e : isW n = false := by simp [isW]; omega
      have h1' : 1 ≤ n := by omega
      rw [e]
      go_enter Try.func32, Try.ntmps32
      go_wp2
      go_ret
      exact ⟨rfl, rfl⟩
    · have : n = 1 ∨ n = 2 ∨ n = 3 ∨ n = 4 ∨ n = 5 ∨ n = 6 ∨ n = 7 ∨ n = 8 := by omega
      rcases this with rfl | rfl | rfl | rfl | rfl | rfl | rfl | rfl
      all_goals
        go_enter Try.func32, Try.ntmps32
        go_wp2
        go_ret
        exact ⟨ret_bool (by decide), rfl⟩
theorem rwidth_any (n : Int) (w : World) : Calls Try.prog 35 #[.int .i64 n] w fun e w' => e = .returned (.bool (isW n)) ∧ w = w' := by
  go_enter Try.func35, Try.ntmps35
  by_cases h : n = 1 ∨ n = 2 ∨ n = 4 ∨ n = 8
  · rcases h with rfl | rfl | rfl | rfl
    all_goals
      go_wp2
      go_ret
      exact ⟨rfl, rfl⟩
  · have e : isW n = false := by simp [isW]; omega
    have e1 : (n == 1) = false := by simp; omega
    have e2 : (n == 2) = false := by simp; omega
    have e4 : (n == 4) = false := by simp; omega
    have e8 : (n == 8) = false := by simp; omega
    rw [e]
    go_wp2
    go_ret
    exact ⟨rfl, rfl⟩
def mod8 (n : Int) : Int := if n = 1 then 256 else if n = 2 then 65536 else if n = 4 then 4294967296 else 18446744073709551616
def sgn (v m : Int) : Int := (v + m / 2) % m - m / 2
theorem sg56 (v : Int) : wrap64 (IntKind.u64.wrap (v * 72057594037927936)) / 72057594037927936 = sgn v 256 := by
  simp only [wrap64, IntKind.wrap_u64, sgn]; omega
theorem sg48 (v : Int) : wrap64 (IntKind.u64.wrap (v * 281474976710656)) / 281474976710656 = sgn v 65536 := by
  simp only [wrap64, IntKind.wrap_u64, sgn]; omega
theorem sg32 (v : Int) : wrap64 (IntKind.u64.wrap (v * 4294967296)) / 4294967296 = sgn v 4294967296 := by
  simp only [wrap64, IntKind.wrap_u64, sgn]; omega
theorem sg0 (v : Int) : wrap64 v = sgn v 18446744073709551616 := by
  simp only [wrap64, sgn]; omega
theorem sg56' (v : Int) : wrap64 (v * 72057594037927936) / 72057594037927936 = sgn v 256 := by
  simp only [wrap64, sgn]; omega
theorem sg48' (v : Int) : wrap64 (v * 281474976710656) / 281474976710656 = sgn v 65536 := by
  simp only [wrap64, sgn]; omega
theorem sg32' (v : Int) : wrap64 (v * 4294967296) / 4294967296 = sgn v 4294967296 := by
  simp only [wrap64, sgn]; omega
theorem si8 (v : Int) : wrap64 (IntKind.i8.wrap v) = sgn v 256 := by
  simp only [wrap64, sgn, IntKind.wrap, IntKind.bits, IntKind.signed]; simp; omega
theorem si16 (v : Int) : wrap64 (IntKind.i16.wrap v) = sgn v 65536 := by
  simp only [wrap64, sgn, IntKind.wrap, IntKind.bits, IntKind.signed]; simp; omega
theorem si32 (v : Int) : wrap64 (wrap32 v) = sgn v 4294967296 := by
  simp only [wrap64, sgn, wrap32]; omega
theorem un56 (v : Int) (h : 0 ≤ v) : (IntKind.u64.wrap (v * 72057594037927936) / 72057594037927936 == v) = (decide (0 ≤ v) && decide (v < 256)) := by
  rw [Bool.eq_iff_iff]; simp only [IntKind.wrap_u64, beq_iff_eq, Bool.and_eq_true, decide_eq_true_eq]; omega
theorem un48 (v : Int) (h : 0 ≤ v) : (IntKind.u64.wrap (v * 281474976710656) / 281474976710656 == v) = (decide (0 ≤ v) && decide (v < 65536)) := by
  rw [Bool.eq_iff_iff]; simp only [IntKind.wrap_u64, beq_iff_eq, Bool.and_eq_true, decide_eq_true_eq]; omega
theorem un32 (v : Int) (h : 0 ≤ v) : (IntKind.u64.wrap (v * 4294967296) / 4294967296 == v) = (decide (0 ≤ v) && decide (v < 4294967296)) := by
  rw [Bool.eq_iff_iff]; simp only [IntKind.wrap_u64, beq_iff_eq, Bool.and_eq_true, decide_eq_true_eq]; omega
theorem un0 (v : Int) (h : 0 ≤ v) (h1 : v ≤ 9223372036854775807) : true = (decide (0 ≤ v) && decide (v < 18446744073709551616)) := by
  symm; simp only [Bool.and_eq_true, decide_eq_true_eq]; omega
theorem sg8' (v : Int) (h0 : -9223372036854775808 ≤ v) (h1 : v ≤ 9223372036854775807) : true = (sgn v 18446744073709551616 == v) := by
  symm; simp only [beq_iff_eq, sgn]; omega
theorem ret_pair {k : IntKind} {a b : Int} {x : Bool} (h : a = b) : Ending.returned (.tuple #[.int k a, .bool x]) = .returned (.tuple #[.int k b, .bool x]) := by rw [h]
set_option maxHeartbeats 1000000 in
theorem signed_any (v n : Int) (w : World) (h0 : 0 ≤ v) (h1 : v < 18446744073709551616) : Calls Try.prog 27 #[.int .u64 v, .int .i64 n] w fun e w' => e = .returned (.tuple #[.int .i64 (if isW n = true then sgn v (mod8 n) else 0), .bool (isW n)]) ∧ w = w' := by
  cases hw : isW n
  · have hw' := Lib.hid hw
    clear hw
    go_enter Try.func27, Try.ntmps27
    go_wp2_with (go_at_call 32; refine (width_any _ _).mono ?_; rw [hw'.out]; rintro e w' ⟨rfl, rfl⟩)
    go_ret2
    exact ⟨rfl, rfl⟩
  · rcases isW_cases hw with rfl | rfl | rfl | rfl
    all_goals
      clear hw
      go_enter Try.func27, Try.ntmps27
      go_wp2_with (go_at_call 32; refine (width_any _ _).mono ?_; rw [show isW _ = true from rfl]; rintro e w' ⟨rfl, rfl⟩)
      go_ret2
      refine ⟨ret_pair ?_, rfl⟩
      first | exact sg56 v | exact sg48 v | exact sg32 v | exact sg0 v | (trace_state; sorry)

set_option maxHeartbeats 1000000 in
theorem rsigned_any (v n : Int) (w : World) (h0 : 0 ≤ v) (h1 : v < 18446744073709551616) : Calls Try.prog 29 #[.int .u64 v, .int .i64 n] w fun e w' => e = .returned (.tuple #[.int .i64 (if isW n = true then sgn v (mod8 n) else 0), .bool (isW n)]) ∧ w = w' := by
  cases hw : isW n
  · have h1 : (n == 1) = false := by simp [isW] at hw; simp; omega
    have h2 : (n == 2) = false := by simp [isW] at hw; simp; omega
    have h4 : (n == 4) = false := by simp [isW] at hw; simp; omega
    have h8 : (n == 8) = false := by simp [isW] at hw; simp; omega
    clear hw
    go_enter Try.func29, Try.ntmps29
    go_wp2
    go_ret2
    exact ⟨rfl, rfl⟩
  · rcases isW_cases hw with rfl | rfl | rfl | rfl
    all_goals
      clear hw
      go_enter Try.func29, Try.ntmps29
      go_wp2
      go_ret2
      exact ⟨ret_pair (by first | exact si8 v | exact si16 v | exact si32 v | exact sg0 v), rfl⟩
def fits (v n : Int) (s : Bool) : Bool := isW n && (match s with | true => sgn v (mod8 n) == v | false => decide (0 ≤ v) && decide (v < mod8 n))
set_option maxHeartbeats 1000000 in
theorem fits_any (v n : Int) (s : Bool) (w : World) (h0 : -9223372036854775808 ≤ v) (h1 : v ≤ 9223372036854775807) : Calls Try.prog 22 #[.int .i64 v, .int .i64 n, .bool s] w fun e w' => e = .returned (.bool (fits v n s)) ∧ w = w' := by
  cases hw : isW n
  · have e1 : fits v n s = false := by simp [fits, hw]
    have hw' := Lib.hid hw
    rw [e1]
    clear hw e1
    go_enter Try.func22, Try.ntmps22
    go_wp2_with (go_at_call 32; refine (width_any _ _).mono ?_; rw [hw'.out]; rintro e w' ⟨rfl, rfl⟩)
    go_ret
    exact ⟨rfl, rfl⟩
  · cases s
    · by_cases hv : v < 0
      · have e1 : fits v n false = false := by simp [fits]; omega
        have hw' := Lib.hid hw
        rw [e1]
        rcases isW_cases hw with rfl | rfl | rfl | rfl
        all_goals
          clear hw e1
          go_enter Try.func22, Try.ntmps22
          go_wp2_with (go_at_call 32; refine (width_any _ _).mono ?_; rw [hw'.out]; rintro e w' ⟨rfl, rfl⟩)
          go_ret
          exact ⟨rfl, rfl⟩
      · have hv' : 0 ≤ v := by omega
        have hw' := Lib.hid hw
        rcases isW_cases hw with rfl | rfl | rfl | rfl
        all_goals
          clear hw hv
          go_enter Try.func22, Try.ntmps22
          go_wp2_with (go_at_call 32; refine (width_any _ _).mono ?_; rw [hw'.out]; rintro e w' ⟨rfl, rfl⟩)
          go_ret
          refine ⟨ret_bool ?_, rfl⟩
          first | exact un56 v hv' | exact un48 v hv' | exact un32 v hv' | exact un0 v hv' h1
    · have hw' := Lib.hid hw
      rcases isW_cases hw with rfl | rfl | rfl | rfl
      all_goals
        clear hw
        go_enter Try.func22, Try.ntmps22
        go_wp2_with (go_at_call 32; refine (width_any _ _).mono ?_; rw [hw'.out]; rintro e w' ⟨rfl, rfl⟩)
        go_ret
        refine ⟨ret_bool ?_, rfl⟩
        first | (rw [sg56']; rfl) | (rw [sg48']; rfl) | (rw [sg32']; rfl) | exact sg8' v h0 h1

set_option maxHeartbeats 1000000 in
theorem rfits_any (v n : Int) (s : Bool) (w : World) (h0 : -9223372036854775808 ≤ v) (h1 : v ≤ 9223372036854775807) : Calls Try.prog 24 #[.int .i64 v, .int .i64 n, .bool s] w fun e w' => e = .returned (.bool (fits v n s)) ∧ w = w' := by
  cases hw : isW n
  · have e1 : fits v n s = false := by simp [fits, hw]
    have hw' := Lib.hid hw
    rw [e1]
    clear hw e1
    go_enter Try.func24, Try.ntmps24
    go_wp2_with (go_at_call 35; refine (rwidth_any _ _).mono ?_; rw [hw'.out]; rintro e w' ⟨rfl, rfl⟩)
    go_ret
    exact ⟨rfl, rfl⟩
  · have hw' := Lib.hid hw
    rcases isW_cases hw with rfl | rfl | rfl | rfl
    all_goals cases s
    all_goals
      clear hw
      go_enter Try.func24, Try.ntmps24
      go_wp2_with (go_at_call 35; refine (rwidth_any _ _).mono ?_; rw [hw'.out]; rintro e w' ⟨rfl, rfl⟩)
      try go_rounds 5
      all_goals go_ret
      all_goals refine ⟨ret_bool ?_, rfl⟩
      all_goals
        rw [Bool.eq_iff_iff]
        simp only [fits, show isW 1 = true from rfl, show isW 2 = true from rfl, show isW 4 = true from rfl, show isW 8 = true from rfl, show mod8 1 = 256 from rfl, show mod8 2 = 65536 from rfl, show mod8 4 = 4294967296 from rfl, show mod8 8 = 18446744073709551616 from rfl, sgn, Bool.true_and, Bool.and_eq_true, decide_eq_true_eq, beq_iff_eq, Bool.false_eq_true, false_iff, true_iff]
        omega
end Go.Proofs.Ytmcmlglacblkiaa
