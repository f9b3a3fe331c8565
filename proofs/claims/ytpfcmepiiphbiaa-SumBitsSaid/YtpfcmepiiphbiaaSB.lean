/- SumBits: the plain law: remainders as registers that shift, bit by bit. -/
import Derived.Test.YtpfcmepiiphbiaaSP
namespace Go.Proofs.Ytpfcmepiiphbiaa
open Go.RowKit Go.Maps
set_option linter.unusedVariables false
set_option linter.unusedSimpArgs false
/-- A register of W bits: the step is linear, and loses nothing; bits stand at pos, the next to come out first. -/
structure Sh (S : Nat → Nat) (W : Nat) (pos : Nat → Nat) : Prop where
  lin : ∀ a b, a < 2 ^ W → b < 2 ^ W → S (a ^^^ b) = S a ^^^ S b
  lt : ∀ a, a < 2 ^ W → S a < 2 ^ W
  inj : ∀ a, a < 2 ^ W → S a = 0 → a = 0
  shift : ∀ i, i + 1 < W → S (2 ^ pos (i + 1)) = 2 ^ pos i
  posl : ∀ i, i < W → pos i < W
  posi : ∀ i j, i < W → j < W → pos i = pos j → i = j
  wide : 0 < W
theorem xor_half (a b : Nat) : (a ^^^ b) / 2 = (a / 2) ^^^ (b / 2) := by
  have := Nat.shiftRight_xor_distrib (a := a) (b := b) (i := 1)
  simpa [Nat.shiftRight_eq_div_pow] using this
theorem xor_par (a b : Nat) : (a ^^^ b) % 2 = (a % 2) ^^^ (b % 2) := Nat.xor_mod_two_pow (n := 1)
theorem xor_twice (a b : Nat) : (a ^^^ b) * 2 = (a * 2) ^^^ (b * 2) := by
  have := Nat.shiftLeft_xor_distrib (a := a) (b := b) (i := 1)
  simpa [Nat.shiftLeft_eq] using this
theorem xor_top (a b : Nat) : (a ^^^ b) / 32768 = (a / 32768) ^^^ (b / 32768) := by
  have := Nat.shiftRight_xor_distrib (a := a) (b := b) (i := 15)
  simpa [Nat.shiftRight_eq_div_pow] using this
theorem lowS_form (p r : Nat) : lowS p r = (r / 2) ^^^ (if r % 2 = 1 then p else 0) := by
  unfold lowS
  split <;> simp_all
theorem highS_form (r : Nat) : highS r = (r * 2 % 65536) ^^^ (if r / 32768 % 2 = 1 then 4129 else 0) := by
  unfold highS
  split <;> simp_all
theorem pick_xor (x y p : Nat) (hx : x < 2) (hy : y < 2) : (if (x ^^^ y) = 1 then p else 0) = (if x = 1 then p else 0) ^^^ (if y = 1 then p else 0) := by
  obtain rfl | rfl : x = 0 ∨ x = 1 := by omega
  · obtain rfl | rfl : y = 0 ∨ y = 1 := by omega
    · simp
    · simp
  · obtain rfl | rfl : y = 0 ∨ y = 1 := by omega
    · simp
    · simp
theorem xor4 (a b c d : Nat) : (a ^^^ b) ^^^ (c ^^^ d) = (a ^^^ c) ^^^ (b ^^^ d) := by
  rw [Nat.xor_assoc, Nat.xor_assoc, ← Nat.xor_assoc b c d, Nat.xor_comm b c, Nat.xor_assoc c b d]
theorem low_lin (p a b : Nat) : lowS p (a ^^^ b) = lowS p a ^^^ lowS p b := by
  rw [lowS_form, lowS_form, lowS_form, xor_half, xor_par, pick_xor _ _ _ (Nat.mod_lt _ (by decide)) (Nat.mod_lt _ (by decide)), xor4]
theorem high_lin (a b : Nat) : highS (a ^^^ b) = highS a ^^^ highS b := by
  rw [highS_form, highS_form, highS_form, xor_twice, xor_mod16, xor_top, xor_par, pick_xor _ _ _ (Nat.mod_lt _ (by decide)) (Nat.mod_lt _ (by decide)), xor4]
theorem xor_zero_eq {a b : Nat} (h : a ^^^ b = 0) : a = b := by
  have : (a ^^^ b) ^^^ b = b := by rw [h, Nat.zero_xor]
  rwa [Nat.xor_assoc, Nat.xor_self, Nat.xor_zero] at this
theorem low_sh (p W : Nat) (hW : 0 < W) (hp : p < 2 ^ W) (hp1 : 2 ^ W ≤ 2 * p) : Sh (lowS p) W id where
  lin a b _ _ := low_lin p a b
  lt a ha := by
    rw [lowS_form]
    refine Nat.xor_lt_two_pow (by omega) ?_
    split
    · exact hp
    · exact Nat.two_pow_pos W
  inj a ha h := by
    rw [lowS_form] at h
    have := xor_zero_eq h
    split at this <;> omega
  shift i _ := by
    show lowS p (2 ^ (i + 1)) = 2 ^ i
    rw [Nat.pow_succ, Nat.mul_comm, lowS_even]
  posl i h := h
  posi i j _ _ h := h
  wide := hW
theorem high_sh : Sh highS 16 (fun i => 15 - i) where
  lin a b _ _ := high_lin a b
  lt a _ := highS_lt a
  inj a ha h := by
    rw [highS_form] at h
    have := xor_zero_eq h
    split at this <;> omega
  shift i hi := by
    obtain ⟨j, hj⟩ : ∃ j, 15 - (i + 1) = j := ⟨_, rfl⟩
    have hj2 : 15 - i = j + 1 := by omega
    show highS (2 ^ (15 - (i + 1))) = 2 ^ (15 - i)
    rw [hj, hj2, highS_form]
    have h1 : 2 ^ j ≤ 2 ^ 14 := Nat.pow_le_pow_right (by decide) (by omega)
    have h1' : 2 ^ j < 32768 := Nat.lt_of_le_of_lt h1 (by decide)
    have h2 : 2 ^ j / 32768 = 0 := Nat.div_eq_of_lt h1'
    rw [h2, if_neg (by decide), Nat.xor_zero, Nat.pow_succ, Nat.mod_eq_of_lt (by omega)]
  posl i h := by omega
  posi i j hi hj h := by omega
  wide := by decide
/-- Bits one by one. -/
def bst (S : Nat → Nat) (e : Nat) (r : Nat) (b : Bool) : Nat := S (r ^^^ (if b then e else 0))
def Fn (S : Nat → Nat) (e : Nat) (r : Nat) (f : Nat → Bool) : Nat → Nat
  | 0 => r
  | m + 1 => bst S e (Fn S e r f m) (f m)
section
variable {S : Nat → Nat} {W : Nat} {pos : Nat → Nat} (h : Sh S W pos)
include h
theorem Sh.zero : S 0 = 0 := by
  have := h.lin 0 0 (Nat.two_pow_pos _) (Nat.two_pow_pos _)
  rwa [Nat.xor_self, Nat.xor_self] at this
theorem Sh.pow (i : Nat) (hi : i < W) : 2 ^ pos i < 2 ^ W := Nat.pow_lt_pow_right (by decide) (h.posl i hi)
theorem Sh.pick (i : Nat) (hi : i < W) (b : Bool) : (if b then 2 ^ pos i else 0) < 2 ^ W := by
  split
  · exact h.pow i hi
  · exact Nat.two_pow_pos _
theorem Sh.bst_lt (r : Nat) (hr : r < 2 ^ W) (b : Bool) : bst S (2 ^ pos 0) r b < 2 ^ W := h.lt _ (Nat.xor_lt_two_pow hr (h.pick 0 h.wide b))
theorem Sh.Fn_lt (r : Nat) (hr : r < 2 ^ W) (f : Nat → Bool) : ∀ m, Fn S (2 ^ pos 0) r f m < 2 ^ W
  | 0 => hr
  | m + 1 => h.bst_lt _ (Sh.Fn_lt r hr f m) _
theorem Sh.bst_xor (r r' : Nat) (hr : r < 2 ^ W) (hr' : r' < 2 ^ W) (b b' : Bool) : bst S (2 ^ pos 0) r b ^^^ bst S (2 ^ pos 0) r' b' = bst S (2 ^ pos 0) (r ^^^ r') (b ^^ b') := by
  unfold bst
  rw [← h.lin _ _ (Nat.xor_lt_two_pow hr (h.pick 0 h.wide b)) (Nat.xor_lt_two_pow hr' (h.pick 0 h.wide b')), xor4]
  cases b <;> cases b' <;> simp
theorem Sh.Fn_xor (r r' : Nat) (hr : r < 2 ^ W) (hr' : r' < 2 ^ W) (f g : Nat → Bool) : ∀ m, Fn S (2 ^ pos 0) r f m ^^^ Fn S (2 ^ pos 0) r' g m = Fn S (2 ^ pos 0) (r ^^^ r') (fun j => f j ^^ g j) m
  | 0 => rfl
  | m + 1 => by
    show bst S _ _ _ ^^^ bst S _ _ _ = bst S _ _ _
    rw [h.bst_xor _ _ (h.Fn_lt r hr f m) (h.Fn_lt r' hr' g m), Sh.Fn_xor r r' hr hr' f g m]
/-- Steps alone. -/
theorem Sh.it_lt (a : Nat) (ha : a < 2 ^ W) : ∀ t, Nat.repeat S t a < 2 ^ W
  | 0 => ha
  | t + 1 => h.lt _ (Sh.it_lt a ha t)
theorem Sh.it_lin (a b : Nat) (ha : a < 2 ^ W) (hb : b < 2 ^ W) : ∀ t, Nat.repeat S t (a ^^^ b) = Nat.repeat S t a ^^^ Nat.repeat S t b
  | 0 => rfl
  | t + 1 => by
    show S _ = S _ ^^^ S _
    rw [Sh.it_lin a b ha hb t, h.lin _ _ (h.it_lt a ha t) (h.it_lt b hb t)]
theorem Sh.it_inj (a : Nat) (ha : a < 2 ^ W) : ∀ t, Nat.repeat S t a = 0 → a = 0
  | 0, h0 => h0
  | t + 1, h0 => Sh.it_inj a ha t (h.inj _ (h.it_lt a ha t) h0)
theorem Sh.it_zero : ∀ t, Nat.repeat S t 0 = 0
  | 0 => rfl
  | t + 1 => by show S _ = 0; rw [Sh.it_zero t, h.zero]
omit h in
theorem it_succ (a : Nat) : ∀ t, Nat.repeat S (t + 1) a = Nat.repeat S t (S a)
  | 0 => rfl
  | t + 1 => by show S _ = S _; rw [it_succ a t]
theorem Sh.it_pow : ∀ t, t < W → Nat.repeat S t (2 ^ pos t) = 2 ^ pos 0
  | 0, _ => rfl
  | t + 1, ht => by rw [it_succ, h.shift t ht, Sh.it_pow t (by omega)]
/-- The register that the bits would make at once. -/
def Vn (pos : Nat → Nat) (ts : Nat → Bool) : Nat → Nat
  | 0 => 0
  | t + 1 => Vn pos ts t ^^^ (if ts t then 2 ^ pos t else 0)
theorem Sh.Vn_lt (ts : Nat → Bool) : ∀ t, t ≤ W → Vn pos ts t < 2 ^ W
  | 0, _ => Nat.two_pow_pos _
  | t + 1, ht => Nat.xor_lt_two_pow (Sh.Vn_lt ts t (by omega)) (h.pick t (by omega) _)
theorem Sh.Fn_Vn (ts : Nat → Bool) : ∀ t, t ≤ W → Fn S (2 ^ pos 0) 0 ts t = Nat.repeat S t (Vn pos ts t)
  | 0, _ => rfl
  | t + 1, ht => by
    have ih := Sh.Fn_Vn ts t (by omega)
    show S (Fn S (2 ^ pos 0) 0 ts t ^^^ _) = Nat.repeat S (t + 1) (Vn pos ts t ^^^ _)
    rw [h.it_lin _ _ (h.Vn_lt ts t (by omega)) (h.pick t (by omega) _), ih, h.lin _ _ (h.it_lt _ (h.Vn_lt ts t (by omega)) t) (h.pick 0 h.wide _)]
    congr 1
    cases ts t
    · rw [if_neg (by decide), if_neg (by decide), h.zero, h.it_zero]
    · rw [if_pos rfl, if_pos rfl]
      show _ = S (Nat.repeat S t _)
      rw [h.it_pow t (by omega)]
theorem Sh.Vn_bit (ts : Nat → Bool) (i : Nat) (hi : i < W) : ∀ t, t ≤ W → (Vn pos ts t).testBit (pos i) = (decide (i < t) && ts i)
  | 0, _ => by simp [Vn]
  | t + 1, ht => by
    have ih := Sh.Vn_bit ts i hi t (by omega)
    show (Vn pos ts t ^^^ _).testBit (pos i) = _
    rw [Nat.testBit_xor, ih]
    by_cases hit : i = t
    · subst hit
      cases ts i <;> simp [Nat.testBit_two_pow_self]
    · have hp : pos t ≠ pos i := fun e => hit (h.posi _ _ (by omega) hi e).symm
      have hb : (if ts t then 2 ^ pos t else 0).testBit (pos i) = false := by
        split
        · rw [Nat.testBit_two_pow]; simp [hp]
        · exact Nat.zero_testBit _
      rw [hb, Bool.xor_false]
      congr 1
      by_cases hlt : i < t
      · simp [hlt, show i < t + 1 by omega]
      · simp [hlt, show ¬ i < t + 1 by omega]
theorem Sh.Fn_zero_iff (ts : Nat → Bool) (t : Nat) (ht : t ≤ W) : Fn S (2 ^ pos 0) 0 ts t = 0 ↔ ∀ i, i < t → ts i = false := by
  rw [h.Fn_Vn ts t ht]
  constructor
  · intro h0 i hi
    have hv := h.it_inj _ (h.Vn_lt ts t ht) t h0
    have := h.Vn_bit ts i (by omega) t ht
    rw [hv, Nat.zero_testBit] at this
    simpa [hi] using this.symm
  · intro h0
    have : ∀ u, u ≤ t → Vn pos ts u = 0 := fun u => by
      induction u with
      | zero => intro _; rfl
      | succ u ih =>
        intro hu
        show Vn pos ts u ^^^ _ = 0
        rw [ih (by omega), h0 u (by omega), if_neg (by decide), Nat.xor_zero]
    rw [this t (Nat.le_refl _), h.it_zero]
/-- Bits that stand side by side, ahead of them and behind them none. -/
theorem Sh.window (ts : Nat → Bool) (first t M : Nat) (ht : t ≤ W) (hM : first + t ≤ M) (d : Nat → Bool) (hd : ∀ j, j < M → d j = (decide (first ≤ j) && decide (j < first + t) && ts (j - first))) :
    Fn S (2 ^ pos 0) 0 d M = 0 ↔ ∀ i, i < t → ts i = false := by
  have h1 : ∀ m, m ≤ first → Fn S (2 ^ pos 0) 0 d m = 0 := fun m => by
    induction m with
    | zero => intro _; rfl
    | succ m ih =>
      intro hm
      show bst S _ (Fn S _ 0 d m) (d m) = 0
      rw [ih (by omega), hd m (by omega)]
      have : ¬ first ≤ m := by omega
      simp [this, bst, h.zero]
  have h2 : ∀ m, m ≤ t → Fn S (2 ^ pos 0) 0 d (first + m) = Fn S (2 ^ pos 0) 0 ts m := fun m => by
    induction m with
    | zero => intro _; exact h1 first (Nat.le_refl _)
    | succ m ih =>
      intro hm
      show bst S _ (Fn S _ 0 d (first + m)) (d (first + m)) = bst S _ _ _
      rw [ih (by omega), hd (first + m) (by omega), Nat.add_sub_cancel_left]
      have a1 : first ≤ first + m := by omega
      have a2 : first + m < first + t := by omega
      simp [a1, a2]
  have h3 : ∀ m, first + t + m ≤ M → (Fn S (2 ^ pos 0) 0 d (first + t + m) = 0 ↔ Fn S (2 ^ pos 0) 0 ts t = 0) := fun m => by
    induction m with
    | zero => intro _; rw [Nat.add_zero, h2 t (Nat.le_refl _)]
    | succ m ih =>
      intro hm
      show bst S _ (Fn S _ 0 d (first + t + m)) (d (first + t + m)) = 0 ↔ _
      rw [← ih (by omega), hd (first + t + m) (by omega)]
      have a2 : ¬ first + t + m < first + t := by omega
      have e : bst S (2 ^ pos 0) (Fn S (2 ^ pos 0) 0 d (first + t + m)) false = S (Fn S (2 ^ pos 0) 0 d (first + t + m)) := by simp [bst]
      simp only [a2, decide_false, Bool.and_false, Bool.false_and]
      rw [e]
      constructor
      · exact h.inj _ (h.Fn_lt 0 (Nat.two_pow_pos _) d _)
      · intro h0; rw [h0, h.zero]
  have := h3 (M - (first + t)) (by omega)
  rw [show first + t + (M - (first + t)) = M by omega] at this
  rw [this, h.Fn_zero_iff ts t ht]
end
end Go.Proofs.Ytpfcmepiiphbiaa
