/- NumFits: the plain law and the walk. -/
import Derived.Test.YtpfcmepiiphbiaaLawOrder
namespace Go.Proofs.Ytpfcmepiiphbiaa
open Go.RowKit
set_option linter.unusedVariables false
set_option linter.unusedSimpArgs false
theorem foldl_be : ∀ (xs : List Int) (a : Int), xs.foldl (fun a x => a * 256 + x) a = a * (256 : Int) ^ xs.length + xs.foldl (fun a x => a * 256 + x) 0
  | [], a => by simp
  | x :: xs, a => by
    have h1 := foldl_be xs (a * 256 + x)
    have h2 := foldl_be xs (0 * 256 + x)
    rw [List.foldl_cons, List.foldl_cons, h1, h2, List.length_cons, Int.pow_succ]
    generalize (256 : Int) ^ xs.length = p
    generalize xs.foldl (fun a x => a * 256 + x) 0 = q
    rw [Int.add_mul, Int.zero_mul, Int.zero_add, Int.mul_comm p 256, ← Int.mul_assoc]
    omega
theorem be_cons (x : Int) (xs : List Int) : be (x :: xs) = x * (256 : Int) ^ xs.length + be xs := by
  show xs.foldl (fun a x => a * 256 + x) (0 * 256 + x) = _
  rw [foldl_be, Int.zero_mul, Int.zero_add]; rfl
theorem be_le (v : Int) : ∀ k : Nat, be (le v k).reverse = v % (256 : Int) ^ k
  | 0 => by simp [le, be, Int.emod_one]
  | k + 1 => by rw [le_rev_succ, be_cons, be_le v k, List.length_reverse, le_len, mod_succ]
theorem take_put (v : Int) (m : Nat) (big : Bool) : takeB (putB v m big) big = v % (256 : Int) ^ m := by
  cases big
  · simp only [takeB, putB, Bool.false_eq_true, if_false]; exact be_le v m
  · simp only [takeB, putB, if_true]; exact be_le v m
theorem mod_le (q : Int) (m : Nat) (h : 0 ≤ q) : q % (256 : Int) ^ m ≤ q := by
  have hp : (0 : Int) < (256 : Int) ^ m := Int.pow_pos (by decide)
  have h1 := Int.emod_add_mul_ediv q ((256 : Int) ^ m)
  have h2 := Int.mul_nonneg (Int.le_of_lt hp) (Int.ediv_nonneg h (Int.le_of_lt hp))
  omega
theorem fits_signed (v : Int) (m : Nat) (h0 : -9223372036854775808 ≤ v) (h1 : v ≤ 9223372036854775807) (hw : isW m = true) : fits v m true = (sgn (IntKind.u64.wrap v % (256 : Int) ^ m) (mod8 m) == v) := by
  have hm : m = 1 ∨ m = 2 ∨ m = 4 ∨ m = 8 := by have := isW_cases hw; omega
  rw [IntKind.wrap_u64]
  rcases hm with rfl | rfl | rfl | rfl
  all_goals
    rw [Bool.eq_iff_iff]
    simp only [fits, show isW ((1 : Nat) : Int) = true from rfl, show isW ((2 : Nat) : Int) = true from rfl, show isW ((4 : Nat) : Int) = true from rfl, show isW ((8 : Nat) : Int) = true from rfl, show mod8 ((1 : Nat) : Int) = 256 from rfl, show mod8 ((2 : Nat) : Int) = 65536 from rfl, show mod8 ((4 : Nat) : Int) = 4294967296 from rfl, show mod8 ((8 : Nat) : Int) = 18446744073709551616 from rfl, show (256 : Int) ^ 1 = 256 by decide, show (256 : Int) ^ 2 = 65536 by decide, show (256 : Int) ^ 4 = 4294967296 by decide, show (256 : Int) ^ 8 = 18446744073709551616 by decide, sgn, Bool.true_and, beq_iff_eq]
    omega
theorem fits_un (v : Int) (m : Nat) (h0 : 0 ≤ v) (h1 : v ≤ 9223372036854775807) (hw : isW m = true) : fits v m false = (IntKind.u64.wrap v % (256 : Int) ^ m == IntKind.u64.wrap v) := by
  have hm : m = 1 ∨ m = 2 ∨ m = 4 ∨ m = 8 := by have := isW_cases hw; omega
  rw [IntKind.wrap_u64]
  rcases hm with rfl | rfl | rfl | rfl
  all_goals
    rw [Bool.eq_iff_iff]
    simp only [fits, show isW ((1 : Nat) : Int) = true from rfl, show isW ((2 : Nat) : Int) = true from rfl, show isW ((4 : Nat) : Int) = true from rfl, show isW ((8 : Nat) : Int) = true from rfl, show mod8 ((1 : Nat) : Int) = 256 from rfl, show mod8 ((2 : Nat) : Int) = 65536 from rfl, show mod8 ((4 : Nat) : Int) = 4294967296 from rfl, show mod8 ((8 : Nat) : Int) = 18446744073709551616 from rfl, show (256 : Int) ^ 1 = 256 by decide, show (256 : Int) ^ 2 = 65536 by decide, show (256 : Int) ^ 4 = 4294967296 by decide, show (256 : Int) ^ 8 = 18446744073709551616 by decide, Bool.true_and, Bool.and_eq_true, decide_eq_true_eq, beq_iff_eq]
    omega
theorem fits_neg (v : Int) (m : Nat) (h0 : v < 0) : fits v m false = false := by simp [fits]; omega
set_option maxHeartbeats 2000000 in
theorem fitsl_any (v u : Int) (w : World) (h0 : -9223372036854775808 ≤ v) (h1 : v ≤ 9223372036854775807) (hu : 0 ≤ u) (hu' : u < 256) :
    Calls Try.prog 8 #[.int .i64 v, .int .u8 u] w fun e w' => e = .returned (.bool true) ∧ Below w.heap.size w w' := by
  have hq : 0 ≤ IntKind.u64.wrap v ∧ IntKind.u64.wrap v < 18446744073709551616 := by rw [IntKind.wrap_u64]; omega
  rcases wide_cases u with h | h | h | h
  case' inl => obtain ⟨m, hm⟩ : ∃ m : Nat, m = 1 := ⟨_, rfl⟩
  case' inr.inl => obtain ⟨m, hm⟩ : ∃ m : Nat, m = 2 := ⟨_, rfl⟩
  case' inr.inr.inl => obtain ⟨m, hm⟩ : ∃ m : Nat, m = 4 := ⟨_, rfl⟩
  case' inr.inr.inr => obtain ⟨m, hm⟩ : ∃ m : Nat, m = 8 := ⟨_, rfl⟩
  all_goals
    have hw : isW m = true := by rw [hm]; rfl
    have hm8 : m ≤ 8 := by omega
    have P1 := Lib.hid (fun W => put_conv (IntKind.u64.wrap v) m true W hw hq.1 hq.2)
    have T1 : Hid (∀ W A c, Own W w.heap.size 5 1 A m c (u8s (putB (IntKind.u64.wrap v) m true)) → Calls Try.prog 24 #[.slice A m c, .int .i64 m, .bool true] W fun e w' => ∃ A c n, e = .returned (.tuple #[.int .u64 (IntKind.u64.wrap v % (256 : Int) ^ m), .slice A n c, .int .i64 0]) ∧ Below W.heap.size W w') := fun W A c ho => by
      refine (take_any A m c (putB (IntKind.u64.wrap v) m true) m true W hw (Nat.le_refl _) (putB_len _ _ _) ho.rd ho.2.1 (by omega) ho.2.2.1 (putB_bd _ _ _)).mono ?_
      rintro e w' ⟨A', c', rfl, ho', hb⟩
      rw [List.take_of_length_le (by rw [putB_len]; exact Nat.le_refl _), take_put]
      exact ⟨A', c', _, rfl, hb⟩
    have f1 := fits_signed v m h0 h1 hw
    have hx0 := mod_bd (IntKind.u64.wrap v) m
    have hx1 : IntKind.u64.wrap v % (256 : Int) ^ m < 18446744073709551616 := by
      have : IntKind.u64.wrap v % (256 : Int) ^ m ≤ IntKind.u64.wrap v := mod_le _ m hq.1
      omega
    have S1 : Hid (∀ W, Calls Try.prog 18 #[.int .u64 (IntKind.u64.wrap v % (256 : Int) ^ m), .int .i64 m] W fun e w' => e = .returned (.tuple #[.int .i64 (sgn (IntKind.u64.wrap v % (256 : Int) ^ m) (mod8 m)), .bool true]) ∧ W = w') := fun W => by
      have := signed_any (IntKind.u64.wrap v % (256 : Int) ^ m) m W hx0.1 hx1
      rw [hw] at this
      exact this
    have F1 := Lib.hid (fun W => fits_any v m true W h0 h1)
    have F2 := Lib.hid (fun W => fits_any v m false W h0 h1)
    have f2 : 0 ≤ v → fits v m false = (IntKind.u64.wrap v % (256 : Int) ^ m == IntKind.u64.wrap v) := fun h => fits_un v m h h1 hw
    have f3 : v < 0 → fits v m false = false := fits_neg v m
    generalize putB (IntKind.u64.wrap v) m true = p at *
    generalize sgn (IntKind.u64.wrap v % (256 : Int) ^ m) (mod8 m) = s at *
    generalize IntKind.u64.wrap v % (256 : Int) ^ m = x at *
    generalize fits v m true = B1 at *
    generalize fits v m false = B2 at *
    subst hm
    clear hw hm8 hx0 hx1
    by_cases hv : 0 ≤ v
    case' pos => have g2 := (f2 hv).symm
                 have hqv : IntKind.u64.wrap v = v := by rw [IntKind.wrap_u64]; omega
                 rw [hqv] at P1 g2
                 clear hqv
    case' neg => have hv' : v < 0 := by omega
                 obtain rfl := f3 hv'
    all_goals
      have g1 := f1.symm
      clear f1 f2 f3 hq
      go_enter Try.func8, Try.ntmps8
      go_wp2_with fail
      refine (shown_any _).mono ?_
      rintro e w1 ⟨rfl, hb1⟩
      go_wp2_with fail
      refine (P1.out _).mono ?_
      rintro e w2 ⟨A2, c2, rfl, -, ho2, hb2⟩
      go_wp2_with fail
      refine (T1.out _ _ _ (ho2.more hb1.size)).mono ?_
      rintro e w3 ⟨A3, c3, n3, rfl, hb3⟩
      go_wp2_with fail
      refine (S1.out _).mono ?_
      rintro e w' ⟨rfl, rfl⟩
      go_wp2_with fail
      refine (F1.out _).mono ?_
      rintro e w' ⟨rfl, rfl⟩
      go_wp2_with fail
      refine (F2.out _).mono ?_
      rintro e w' ⟨rfl, rfl⟩
      go_wp2_with fail
      go_ret
      exact ⟨rfl, bel2 (bel2 hb1 hb2) hb3⟩
end Go.Proofs.Ytpfcmepiiphbiaa
