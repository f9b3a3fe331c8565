/- Numbers and their bytes: plain laws. -/
import Derived.Test.YtpfcmepiiphbiaaNumL
namespace Go.Proofs.Ytpfcmepiiphbiaa
open Go.RowKit
set_option linter.unusedVariables false
set_option linter.unusedSimpArgs false
theorem le_rev_succ (v : Int) (k : Nat) : (le v (k + 1)).reverse = (v / (256 : Int) ^ k % 256) :: (le v k).reverse := by
  rw [← le_succ]; simp
theorem le_bd (v : Int) (k : Nat) : ∀ x ∈ le v k, 0 ≤ x ∧ x < 256 := by
  intro x hx
  obtain ⟨i, _, rfl⟩ := List.mem_map.1 hx
  omega
theorem putB_bd (v : Int) (k : Nat) (b : Bool) : ∀ x ∈ putB v k b, 0 ≤ x ∧ x < 256 := by
  cases b
  · exact le_bd v k
  · intro x hx; exact le_bd v k x (by simpa [putB] using hx)
/-- The last k bytes of a number. -/
theorem mod_succ (v : Int) (k : Nat) : v % (256 : Int) ^ (k + 1) = v / (256 : Int) ^ k % 256 * (256 : Int) ^ k + v % (256 : Int) ^ k := by
  have hp : (0 : Int) < (256 : Int) ^ k := Int.pow_pos (by decide)
  have h1 := Int.emod_add_mul_ediv v ((256 : Int) ^ k)
  have h2 := Int.emod_add_mul_ediv (v / (256 : Int) ^ k) 256
  have h3 := Int.emod_add_mul_ediv v ((256 : Int) ^ (k + 1))
  have h4 : v / (256 : Int) ^ (k + 1) = v / (256 : Int) ^ k / 256 := (div_succ v k).symm
  rw [h4, Int.pow_succ] at h3
  rw [Int.pow_succ]
  generalize v / (256 : Int) ^ k = q at *
  generalize (256 : Int) ^ k = p at *
  have e : p * 256 * (q / 256) = p * (256 * (q / 256)) := by rw [Int.mul_assoc]
  have e2 : p * q = p * (q % 256) + p * (256 * (q / 256)) := by rw [← Int.mul_add]; congr 1; omega
  have e3 : q % 256 * p = p * (q % 256) := Int.mul_comm _ _
  omega
theorem pair_lt (p a b x y : Int) (hx0 : 0 ≤ x) (hx : x < p) (hy0 : 0 ≤ y) (hy : y < p) : (a * p + x < b * p + y) ↔ (a < b ∨ a = b ∧ x < y) := by
  rcases Int.lt_trichotomy a b with h | h | h
  · have : a * p + p ≤ b * p := by
      have := Int.mul_le_mul_of_nonneg_right (show a + 1 ≤ b by omega) (show (0 : Int) ≤ p by omega)
      rw [Int.add_mul, Int.one_mul] at this
      exact this
    omega
  · subst h; omega
  · have : b * p + p ≤ a * p := by
      have := Int.mul_le_mul_of_nonneg_right (show b + 1 ≤ a by omega) (show (0 : Int) ≤ p by omega)
      rw [Int.add_mul, Int.one_mul] at this
      exact this
    omega
theorem pair_eq (p a b x y : Int) (hx0 : 0 ≤ x) (hx : x < p) (hy0 : 0 ≤ y) (hy : y < p) : (a * p + x = b * p + y) ↔ (a = b ∧ x = y) := by
  constructor
  · intro h
    have h1 := (pair_lt p a b x y hx0 hx hy0 hy)
    have h2 := (pair_lt p b a y x hy0 hy hx0 hx)
    omega
  · rintro ⟨rfl, rfl⟩; rfl
theorem mod_bd (v : Int) (k : Nat) : 0 ≤ v % (256 : Int) ^ k ∧ v % (256 : Int) ^ k < (256 : Int) ^ k := by
  have hp : (0 : Int) < (256 : Int) ^ k := Int.pow_pos (by decide)
  exact ⟨Int.emod_nonneg _ (Int.ne_of_gt hp), Int.emod_lt_of_pos _ hp⟩
theorem u8_lt {x y : Int} (hx : 0 ≤ x ∧ x < 256) (hy : 0 ≤ y ∧ y < 256) : (UInt8.ofNat x.toNat < UInt8.ofNat y.toNat) ↔ x < y := by
  rw [UInt8.lt_iff_toNat_lt]
  simp only [UInt8.toNat_ofNat']
  omega
theorem less_law (a b : Int) : ∀ k : Nat, Op.bytesLess ((le a k).reverse.map fun n => UInt8.ofNat n.toNat) ((le b k).reverse.map fun n => UInt8.ofNat n.toNat) = decide (a % (256 : Int) ^ k < b % (256 : Int) ^ k)
  | 0 => by simp [le, Op.bytesLess, Int.emod_one]
  | k + 1 => by
    have ih := less_law a b k
    rw [le_rev_succ, le_rev_succ, mod_succ a, mod_succ b, List.map_cons, List.map_cons, Op.bytesLess, ih]
    obtain ⟨a0, a1⟩ := mod_bd a k
    obtain ⟨b0, b1⟩ := mod_bd b k
    have hx : 0 ≤ a / (256 : Int) ^ k % 256 ∧ a / (256 : Int) ^ k % 256 < 256 := by omega
    have hy : 0 ≤ b / (256 : Int) ^ k % 256 ∧ b / (256 : Int) ^ k % 256 < 256 := by omega
    rw [Bool.eq_iff_iff]
    simp only [Bool.or_eq_true, Bool.and_eq_true, decide_eq_true_eq, beq_iff_eq, pair_lt _ _ _ _ _ a0 a1 b0 b1, u8_lt hx hy]
    constructor
    · rintro (h | ⟨h, h2⟩)
      · exact .inl h
      · exact .inr ⟨byte_inj hx hy h, h2⟩
    · rintro (h | ⟨h, h2⟩)
      · exact .inl h
      · exact .inr ⟨by rw [h], h2⟩
theorem le_eq (a b : Int) : ∀ k : Nat, (le a k).reverse = (le b k).reverse ↔ a % (256 : Int) ^ k = b % (256 : Int) ^ k
  | 0 => by simp [le, Int.emod_one]
  | k + 1 => by
    have ih := le_eq a b k
    obtain ⟨a0, a1⟩ := mod_bd a k
    obtain ⟨b0, b1⟩ := mod_bd b k
    rw [le_rev_succ, le_rev_succ, mod_succ a, mod_succ b, pair_eq _ _ _ _ _ a0 a1 b0 b1, List.cons.injEq, ih]
theorem order_less (a b : Int) (m : Nat) : Op.bytesLess (bstr (putB a m true)).toList (bstr (putB b m true)).toList = decide (a % (256 : Int) ^ m < b % (256 : Int) ^ m) := by
  rw [bstr_toList, bstr_toList]; exact less_law a b m
theorem order_eql (a b : Int) (m : Nat) : ((bstr (putB a m true)).toList == (bstr (putB b m true)).toList) = (a % (256 : Int) ^ m == b % (256 : Int) ^ m) := by
  rw [bstr_beq _ _ (putB_bd _ _ _) (putB_bd _ _ _), Bool.eq_iff_iff]
  simp only [decide_eq_true_eq, beq_iff_eq]
  exact le_eq a b m
theorem mask_and (a : Int) (m : Nat) (h0 : 0 ≤ a) (h1 : a < 18446744073709551616) (hm : m ≤ 8) : bits .and .u64 a (maskV m) = a % (256 : Int) ^ m := by
  obtain ⟨n, rfl⟩ := Int.eq_ofNat_of_zero_le h0
  have h256 : (256 : Int) ^ m = ((256 ^ m : Nat) : Int) := by rw [Int.natCast_pow]; rfl
  have hpow : (256 : Nat) ^ m = 2 ^ (8 * m) := by rw [Nat.pow_mul]
  have hle : (256 : Nat) ^ m ≤ 256 ^ 8 := Nat.pow_le_pow_right (by decide) hm
  have hpos : 0 < (256 : Nat) ^ m := Nat.pow_pos (by decide)
  have hmod : n &&& (256 ^ m - 1) = n % 256 ^ m := by rw [hpow, Nat.and_two_pow_sub_one_eq_mod]
  rw [show (256 : Nat) ^ 8 = 18446744073709551616 from by decide] at hle
  unfold maskV
  rw [h256]
  generalize (256 : Nat) ^ m = p at *
  have e : (p : Int) - 1 = ((p - 1 : Nat) : Int) := by omega
  rw [e, u64_and_nat _ _ (by omega) (by omega), hmod]
  omega
end Go.Proofs.Ytpfcmepiiphbiaa
