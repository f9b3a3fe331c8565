/- SumBits: the plain law, of bytes. -/
import Derived.Test.YtpfcmepiiphbiaaSB
namespace Go.Proofs.Ytpfcmepiiphbiaa
open Go.RowKit Go.Maps
set_option linter.unusedVariables false
set_option linter.unusedSimpArgs false
def bitAt (pos8 : Nat → Nat) (xs : List Int) (j : Nat) : Bool := (xs.getD (j / 8) 0).toNat.testBit (pos8 (j % 8))
theorem Fn_add (S : Nat → Nat) (e r : Nat) (f : Nat → Bool) (a : Nat) : ∀ b, Fn S e r f (a + b) = Fn S e (Fn S e r f a) (fun i => f (a + i)) b
  | 0 => rfl
  | b + 1 => by
    show bst S e (Fn S e r f (a + b)) (f (a + b)) = bst S e _ _
    rw [Fn_add S e r f a b]
theorem Fn_congr (S : Nat → Nat) (e r : Nat) (f g : Nat → Bool) : ∀ m, (∀ i, i < m → f i = g i) → Fn S e r f m = Fn S e r g m
  | 0, _ => rfl
  | m + 1, h => by
    show bst S e _ _ = bst S e _ _
    rw [Fn_congr S e r f g m (fun i hi => h i (by omega)), h m (by omega)]
theorem Fn_none (S : Nat → Nat) (e r : Nat) : ∀ m, Fn S e r (fun _ => false) m = Nat.repeat S m r
  | 0 => rfl
  | m + 1 => by
    show S (Fn S e r (fun _ => false) m ^^^ (if false = true then e else 0)) = S _
    rw [Fn_none S e r m, if_neg (by decide), Nat.xor_zero]
theorem lowN_rep (p r : Nat) : ∀ k, lowN p k r = Nat.repeat (lowS p) k r
  | 0 => rfl
  | k + 1 => by show lowS p _ = lowS p _; rw [lowN_rep p r k]
theorem highN_rep (r : Nat) : ∀ k, highN k r = Nat.repeat highS k r
  | 0 => rfl
  | k + 1 => by show highS _ = highS _; rw [highN_rep r k]
theorem low16_bits : ∀ v : Fin 256, lowN 40961 8 v.1 = Fn (lowS 40961) (2 ^ id 0) 0 (fun i => v.1.testBit (id i)) 8 := by decide +kernel
theorem low32_bits : ∀ v : Fin 256, lowN 3988292384 8 v.1 = Fn (lowS 3988292384) (2 ^ id 0) 0 (fun i => v.1.testBit (id i)) 8 := by decide +kernel
theorem high_bits : ∀ v : Fin 256, highN 8 (v.1 * 256) = Fn highS (2 ^ (15 - 0)) 0 (fun i => v.1.testBit (7 - i)) 8 := by decide +kernel
def By8 (B : Nat → Nat → Nat) (S : Nat → Nat) (W : Nat) (pos pos8 : Nat → Nat) : Prop := ∀ R v, R < 2 ^ W → v < 256 → B R v = Fn S (2 ^ pos 0) R (fun i => v.testBit (pos8 i)) 8
theorem by8_of {S : Nat → Nat} {W : Nat} {pos : Nat → Nat} (h : Sh S W pos) (R v' : Nat) (hR : R < 2 ^ W) (hv : v' < 2 ^ W) (f : Nat → Bool) (hf : Nat.repeat S 8 v' = Fn S (2 ^ pos 0) 0 f 8) : Nat.repeat S 8 (R ^^^ v') = Fn S (2 ^ pos 0) R f 8 := by
  have := h.Fn_xor R 0 hR (Nat.two_pow_pos _) (fun _ => false) f 8
  rw [Nat.xor_zero, Fn_none, ← hf, ← h.it_lin R v' hR hv 8] at this
  rw [this]
  exact Fn_congr _ _ _ _ _ 8 (fun i _ => by simp)
theorem sh16 : Sh (lowS 40961) 16 id := low_sh 40961 16 (by decide) (by decide) (by decide)
theorem sh32 : Sh (lowS 3988292384) 32 id := low_sh 3988292384 32 (by decide) (by decide) (by decide)
theorem by16 : By8 (lowB 40961) (lowS 40961) 16 id id := fun R v hR hv => by
  unfold lowB
  rw [lowN_rep]
  exact by8_of sh16 R v hR (by omega) _ (by rw [← lowN_rep]; exact low16_bits ⟨v, hv⟩)
theorem by32 : By8 (lowB 3988292384) (lowS 3988292384) 32 id id := fun R v hR hv => by
  unfold lowB
  rw [lowN_rep]
  exact by8_of sh32 R v hR (by omega) _ (by rw [← lowN_rep]; exact low32_bits ⟨v, hv⟩)
theorem byH : By8 highB highS 16 (fun i => 15 - i) (fun i => 7 - i) := fun R v hR hv => by
  unfold highB
  rw [highN_rep]
  exact by8_of high_sh R (v * 256) hR (by omega) _ (by rw [← highN_rep]; exact high_bits ⟨v, hv⟩)
/-- A remainder over bytes is one over their bits. -/
theorem fold_bits {B : Nat → Nat → Nat} {S : Nat → Nat} {W : Nat} {pos pos8 : Nat → Nat} (h : Sh S W pos) (h8 : By8 B S W pos pos8) (r : Nat) (hr : r < 2 ^ W) (xs : List Int) (hu : b8 xs) : ∀ j, foldN B r xs j = Fn S (2 ^ pos 0) r (bitAt pos8 xs) (8 * j)
  | 0 => rfl
  | j + 1 => by
    have hb := getD_b8 hu j
    show B (foldN B r xs j) _ = _
    rw [fold_bits h h8 r hr xs hu j, h8 _ _ (h.Fn_lt r hr _ _) (by omega), Nat.mul_succ, Fn_add]
    refine Fn_congr _ _ _ _ _ 8 (fun i hi => ?_)
    unfold bitAt
    rw [show (8 * j + i) / 8 = j by omega, show (8 * j + i) % 8 = i by omega]
/-- Bits that are turned, one by one. -/
def flip (pos8 : Nat → Nat) (ts : Nat → Bool) (first : Nat) (x : List Int) : Nat → List Int × Bool
  | 0 => (x, false)
  | i + 1 => if ts i = false ∨ 8 * x.length ≤ first + i then flip pos8 ts first x i else
      ((flip pos8 ts first x i).1.set ((first + i) / 8) ((((flip pos8 ts first x i).1.getD ((first + i) / 8) 0).toNat ^^^ 2 ^ pos8 ((first + i) % 8) : Nat) : Int), true)
section
variable (pos8 : Nat → Nat) (ts : Nat → Bool) (first : Nat) (x : List Int)
theorem flip_len : ∀ i, (flip pos8 ts first x i).1.length = x.length
  | 0 => rfl
  | i + 1 => by
    unfold flip
    split
    · exact flip_len i
    · rw [List.length_set]; exact flip_len i
theorem flip_b8 (hu : b8 x) (hp : ∀ i, i < 8 → pos8 i < 8) : ∀ i, b8 (flip pos8 ts first x i).1
  | 0 => hu
  | i + 1 => by
    have ih := flip_b8 hu hp i
    unfold flip
    split
    · exact ih
    · intro y hy
      rcases List.mem_or_eq_of_mem_set hy with hy | rfl
      · exact ih y hy
      · have h1 := getD_b8 ih ((first + i) / 8)
        have h2 : 2 ^ pos8 ((first + i) % 8) < 2 ^ 8 := Nat.pow_lt_pow_right (by decide) (hp _ (Nat.mod_lt _ (by decide)))
        have := Nat.xor_lt_two_pow (n := 8) (show ((flip pos8 ts first x i).1.getD ((first + i) / 8) 0).toNat < 2 ^ 8 by omega) h2
        omega
theorem flip_flag : ∀ i, (flip pos8 ts first x i).2 = false ↔ ∀ i', i' < i → first + i' < 8 * x.length → ts i' = false
  | 0 => by simp [flip]
  | i + 1 => by
    have ih := flip_flag i
    unfold flip
    split
    case isTrue h =>
      rw [ih]
      constructor
      · intro h0 i' hi' hl
        by_cases he : i' = i
        · subst he
          rcases h with h | h
          · exact h
          · omega
        · exact h0 i' (by omega) hl
      · intro h0 i' hi' hl
        exact h0 i' (by omega) hl
    case isFalse h =>
      constructor
      · intro h0; cases h0
      · intro h0
        exact absurd (.inl (h0 i (by omega) (by omega))) h
theorem flip_bit (hp : ∀ i j, i < 8 → j < 8 → pos8 i = pos8 j → i = j) : ∀ i j, j < 8 * x.length → bitAt pos8 (flip pos8 ts first x i).1 j = (bitAt pos8 x j ^^ (decide (first ≤ j) && decide (j < first + i) && ts (j - first)))
  | 0, j, _ => by
    have : (decide (first ≤ j) && decide (j < first + 0)) = false := by
      rw [Bool.and_eq_false_iff, decide_eq_false_iff_not, decide_eq_false_iff_not]; omega
    rw [this]
    simp [flip]
  | i + 1, j, hj => by
    have ih := flip_bit hp i j hj
    unfold flip
    by_cases hc : ts i = false ∨ 8 * x.length ≤ first + i
    · rw [if_pos hc, ih]
      congr 1
      by_cases hji : j = first + i
      · subst hji
        rcases hc with h | h
        · rw [Nat.add_sub_cancel_left, h, Bool.and_false, Bool.and_false]
        · omega
      · congr 2
        rw [decide_eq_decide]; omega
    · rw [if_neg hc]
      have hti : ts i = true := by
        cases hh : ts i
        · exact absurd (.inl hh) hc
        · rfl
      have hfl : first + i < 8 * x.length := by
        rcases Nat.lt_or_ge (first + i) (8 * x.length) with h | h
        · exact h
        · exact absurd (.inr h) hc
      obtain ⟨y, hy⟩ : ∃ y, (flip pos8 ts first x i).1 = y := ⟨_, rfl⟩
      have hyl : y.length = x.length := by rw [← hy]; exact flip_len pos8 ts first x i
      rw [hy] at ih ⊢
      unfold bitAt at ih ⊢
      by_cases hb : j / 8 = (first + i) / 8
      · rw [hb]
        rw [show (y.set ((first + i) / 8) (((y.getD ((first + i) / 8) 0).toNat ^^^ 2 ^ pos8 ((first + i) % 8) : Nat) : Int)).getD ((first + i) / 8) 0 = (((y.getD ((first + i) / 8) 0).toNat ^^^ 2 ^ pos8 ((first + i) % 8) : Nat) : Int) by
          rw [List.getD_eq_getElem?_getD, List.getElem?_set_self (by omega)]; rfl]
        rw [Int.toNat_natCast, Nat.testBit_xor, ← hb, ih, Nat.testBit_two_pow]
        by_cases hji : j = first + i
        · subst hji
          have a1 : first ≤ first + i := by omega
          simp [a1, hti]
        · have hne : ¬ pos8 ((first + i) % 8) = pos8 (j % 8) := fun e => by
            have := hp _ _ (Nat.mod_lt _ (by decide)) (Nat.mod_lt _ (by decide)) e
            omega
          rw [decide_eq_false hne, Bool.xor_false]
          congr 3
          rw [decide_eq_decide]; omega
      · rw [show (y.set ((first + i) / 8) (((y.getD ((first + i) / 8) 0).toNat ^^^ 2 ^ pos8 ((first + i) % 8) : Nat) : Int)).getD (j / 8) 0 = y.getD (j / 8) 0 by
          rw [List.getD_eq_getElem?_getD, List.getElem?_set_ne (fun e => hb e.symm), ← List.getD_eq_getElem?_getD]]
        rw [ih]
        congr 3
        rw [decide_eq_decide]
        have : j ≠ first + i := fun e => hb (by rw [e])
        omega
end
/-- Remainders tell bits that were turned. -/
theorem crc_turn {B : Nat → Nat → Nat} {S : Nat → Nat} {W : Nat} {pos pos8 : Nat → Nat} (h : Sh S W pos) (h8 : By8 B S W pos pos8) (hp : ∀ i j, i < 8 → j < 8 → pos8 i = pos8 j → i = j) (hp8 : ∀ i, i < 8 → pos8 i < 8) (r : Nat) (hr : r < 2 ^ W) (x : List Int) (hu : b8 x)
    (ts : Nat → Bool) (first : Nat) (hf : first < 8 * x.length) : crc B r x = crc B r (flip pos8 ts first x W).1 ↔ (flip pos8 ts first x W).2 = false := by
  have hu2 := flip_b8 pos8 ts first x hu hp8 W
  unfold crc
  rw [flip_len, fold_bits h h8 r hr x hu, fold_bits h h8 r hr _ hu2]
  have hx := h.Fn_xor r r hr hr (bitAt pos8 x) (bitAt pos8 (flip pos8 ts first x W).1) (8 * x.length)
  rw [Nat.xor_self] at hx
  have hw := h.window ts first (min W (8 * x.length - first)) (8 * x.length) (by omega) (by omega) (fun j => bitAt pos8 x j ^^ bitAt pos8 (flip pos8 ts first x W).1 j) (fun j hj => by
    rw [flip_bit pos8 ts first x hp W j hj, ← Bool.xor_assoc, Bool.xor_self, Bool.false_xor]
    congr 2
    rw [decide_eq_decide]; omega)
  rw [← hx] at hw
  rw [flip_flag]
  constructor
  · intro he i' hi' hl
    rw [he, Nat.xor_self] at hw
    exact hw.1 rfl i' (by omega)
  · intro h0
    exact xor_zero_eq (hw.2 fun i hi => h0 i (by omega) (by omega))
def posK (k : Nat) (i : Nat) : Nat := if k = 8 then 7 - i else i
def wideB (k : Nat) : Nat := if k = 9 then 32 else 16
theorem bits_law (k : Nat) (hk : k = 7 ∨ k = 8 ∨ k = 9) (x : List Int) (hu : b8 x) (ts : Nat → Bool) (first : Nat) (hf : first < 8 * x.length) :
    ∃ n m : Nat, sumV k x true = (n, 0) ∧ sumV k (flip (posK k) ts first x (wideB k)).1 false = (m, 0) ∧ n < 4294967296 ∧ m < 4294967296 ∧ ((n : Int) != (m : Int)) = (flip (posK k) ts first x (wideB k)).2 := by
  have fin : ∀ (n m : Nat) (t : Bool), (n = m ↔ t = false) → ((n : Int) != (m : Int)) = t := fun n m t h => by
    cases t
    · rw [h.2 rfl]; simp
    · have : n ≠ m := fun e => by have := h.1 e; cases this
      rw [bne_iff_ne]; omega
  have L1 := sumV_lt k x true
  have L2 := sumV_lt k (flip (posK k) ts first x (wideB k)).1 false
  rcases hk with rfl | rfl | rfl
  · have e1 : posK 7 = id := rfl
    have hu2 : b8 (flip (posK 7) ts first x (wideB 7)).1 := flip_b8 _ _ _ _ hu (fun i hi => hi) _
    rw [sum7 x true hu] at L1 ⊢
    rw [sum7 _ false hu2] at L2 ⊢
    refine ⟨_, _, rfl, rfl, L1, L2, fin _ _ _ ?_⟩
    exact crc_turn sh16 by16 (fun i j _ _ h => h) (fun i hi => hi) 0 (by decide) x hu ts first hf
  · have hpb : ∀ i, i < 8 → posK 8 i < 8 := fun i hi => by show 7 - i < 8; omega
    have hu2 : b8 (flip (posK 8) ts first x (wideB 8)).1 := flip_b8 _ _ _ _ hu hpb _
    rw [sum8 x true hu] at L1 ⊢
    rw [sum8 _ false hu2] at L2 ⊢
    refine ⟨_, _, rfl, rfl, L1, L2, fin _ _ _ ?_⟩
    exact crc_turn high_sh byH (fun i j hi hj h => by have h' : 7 - i = 7 - j := h; omega) hpb 65535 (by decide) x hu ts first hf
  · have e1 : posK 9 = id := rfl
    have hu2 : b8 (flip (posK 9) ts first x (wideB 9)).1 := flip_b8 _ _ _ _ hu (fun i hi => hi) _
    have l1 : crc (lowB 3988292384) 4294967295 x < 4294967296 := foldLow_lt _ _ (by decide) (by decide) x hu _
    have l2 : crc (lowB 3988292384) 4294967295 (flip (posK 9) ts first x (wideB 9)).1 < 4294967296 := foldLow_lt _ _ (by decide) (by decide) _ hu2 _
    rw [sum9 x true hu] at L1 ⊢
    rw [sum9 _ false hu2] at L2 ⊢
    refine ⟨_, _, rfl, rfl, L1, L2, fin _ _ _ ?_⟩
    have this : crc (lowB 3988292384) 4294967295 x = crc (lowB 3988292384) 4294967295 (flip (posK 9) ts first x (wideB 9)).1 ↔ (flip (posK 9) ts first x (wideB 9)).2 = false := crc_turn sh32 by32 (fun i j _ _ h => h) (fun i hi => hi) 4294967295 (by decide) x hu ts first hf
    rw [← this]
    omega
end Go.Proofs.Ytpfcmepiiphbiaa
