/- SumWords: the plain law; the walk. -/
import Derived.Test.YtpfcmepiiphbiaaSP
import Derived.ArgAppend
namespace Go.Proofs.Ytpfcmepiiphbiaa
open Go.RowKit Go.Maps
set_option linter.unusedVariables false
set_option linter.unusedSimpArgs false
/-- Every other byte of the first i, and the others. -/
def evL (s : List Int) : Nat → List Int
  | 0 => []
  | i + 1 => if i % 2 = 0 then evL s i ++ [s.getD i 0] else evL s i
def odL (s : List Int) : Nat → List Int
  | 0 => []
  | i + 1 => if i % 2 = 0 then odL s i else odL s i ++ [s.getD i 0]
def evP (s : List Int) : Nat → Nat
  | 0 => 0
  | j + 1 => evP s j + (s.getD (2 * j) 0).toNat
def odP (s : List Int) : Nat → Nat
  | 0 => 0
  | j + 1 => odP s j + (s.getD (2 * j + 1) 0).toNat
theorem evL_two (s : List Int) (j : Nat) : evL s (2 * (j + 1)) = evL s (2 * j) ++ [s.getD (2 * j) 0] := by
  show evL s (2 * j + 1 + 1) = _
  rw [evL, if_neg (by omega), evL, if_pos (by omega)]
theorem odL_two (s : List Int) (j : Nat) : odL s (2 * (j + 1)) = odL s (2 * j) ++ [s.getD (2 * j + 1) 0] := by
  show odL s (2 * j + 1 + 1) = _
  rw [odL, if_neg (by omega), odL, if_pos (by omega)]
theorem evL_len (s : List Int) : ∀ i, (evL s i).length = (i + 1) / 2
  | 0 => rfl
  | i + 1 => by
    have := evL_len s i
    unfold evL
    split
    · rw [List.length_append, this]; simp; omega
    · rw [this]; omega
theorem odL_len (s : List Int) : ∀ i, (odL s i).length = i / 2
  | 0 => rfl
  | i + 1 => by
    have := odL_len s i
    unfold odL
    split
    · rw [this]; omega
    · rw [List.length_append, this]; simp; omega
theorem evL_b8 (s : List Int) (h : b8 s) : ∀ i, b8 (evL s i)
  | 0 => fun x hx => by cases hx
  | i + 1 => by
    unfold evL
    split
    · exact b8_app (evL_b8 s h i) (fun x hx => by simp only [List.mem_singleton] at hx; subst hx; exact getD_b8 h i)
    · exact evL_b8 s h i
theorem odL_b8 (s : List Int) (h : b8 s) : ∀ i, b8 (odL s i)
  | 0 => fun x hx => by cases hx
  | i + 1 => by
    unfold odL
    split
    · exact odL_b8 s h i
    · exact b8_app (odL_b8 s h i) (fun x hx => by simp only [List.mem_singleton] at hx; subst hx; exact getD_b8 h i)
theorem add_ev (s : List Int) (big : Bool) : ∀ j, addV (evL s (2 * j)) 1 big j = evP s j
  | 0 => rfl
  | j + 1 => by
    rw [evL_two, addV_app (evL s (2 * j)) [s.getD (2 * j) 0] 1 big j (by rw [evL_len]; omega) 1, add_ev s big j]
    show evP s j + (0 + wordV _ 1 big 0) = _
    rw [wordV_one]
    show evP s j + (0 + (s.getD (2 * j) 0).toNat) = evP s j + (s.getD (2 * j) 0).toNat
    omega
theorem add_od (s : List Int) (big : Bool) : ∀ j, addV (odL s (2 * j)) 1 big j = odP s j
  | 0 => rfl
  | j + 1 => by
    rw [odL_two, addV_app (odL s (2 * j)) [s.getD (2 * j + 1) 0] 1 big j (by rw [odL_len]; omega) 1, add_od s big j]
    show odP s j + (0 + wordV _ 1 big 0) = _
    rw [wordV_one]
    show odP s j + (0 + (s.getD (2 * j + 1) 0).toNat) = odP s j + (s.getD (2 * j + 1) 0).toNat
    omega
theorem wordV_two (s : List Int) (h : b8 s) (t : Nat) (ht : t + 2 ≤ s.length) (big : Bool) : wordV s 2 big t = if big then 256 * (s.getD t 0).toNat + (s.getD (t + 1) 0).toNat else (s.getD t 0).toNat + 256 * (s.getD (t + 1) 0).toNat := by
  have h1 := getD_b8 h t
  have h2 := getD_b8 h (t + 1)
  have e : (s.drop t).take 2 = [s.getD t 0, s.getD (t + 1) 0] := by
    rw [List.drop_eq_getElem_cons (by omega), List.drop_eq_getElem_cons (by omega), List.take_succ_cons, List.take_succ_cons, List.take_zero]
    rw [List.getD_eq_getElem?_getD, List.getD_eq_getElem?_getD, List.getElem?_eq_getElem (by omega), List.getElem?_eq_getElem (by omega)]
    rfl
  unfold wordV takeB
  rw [e]
  cases big
  · show (be [s.getD (t + 1) 0, s.getD t 0]).toNat = (s.getD t 0).toNat + 256 * (s.getD (t + 1) 0).toNat
    show ((0 * 256 + s.getD (t + 1) 0) * 256 + s.getD t 0).toNat = _
    omega
  · show ((0 * 256 + s.getD t 0) * 256 + s.getD (t + 1) 0).toNat = 256 * (s.getD t 0).toNat + (s.getD (t + 1) 0).toNat
    omega
theorem add_two (s : List Int) (h : b8 s) (big : Bool) : ∀ j, 2 * j ≤ s.length → addV s 2 big j = if big then 256 * evP s j + odP s j else 256 * odP s j + evP s j
  | 0, _ => by cases big <;> rfl
  | j + 1, hj => by
    have ih := add_two s h big j (by omega)
    have hw := wordV_two s h (2 * j) (by omega) big
    unfold addV evP odP
    rw [ih, hw]
    cases big
    · simp only [Bool.false_eq_true, if_false]
      omega
    · simp only [if_true]
      omega
theorem add_all (s : List Int) (big : Bool) : ∀ j, addV s 1 big (2 * j) = evP s j + odP s j
  | 0 => rfl
  | j + 1 => by
    have ih := add_all s big j
    show addV s 1 big (2 * j) + wordV s 1 big (1 * (2 * j)) + wordV s 1 big (1 * (2 * j + 1)) = _
    rw [ih, wordV_one, wordV_one, Nat.one_mul, Nat.one_mul, show evP s (j + 1) = evP s j + (s.getD (2 * j) 0).toNat from rfl, show odP s (j + 1) = odP s j + (s.getD (2 * j + 1) 0).toNat from rfl]
    omega
theorem evP_le (s : List Int) (h : b8 s) : ∀ j, evP s j ≤ 255 * j
  | 0 => Nat.zero_le _
  | j + 1 => by
    have := evP_le s h j
    have := getD_b8 h (2 * j)
    unfold evP
    omega
theorem odP_le (s : List Int) (h : b8 s) : ∀ j, odP s j ≤ 255 * j
  | 0 => Nat.zero_le _
  | j + 1 => by
    have := odP_le s h j
    have := getD_b8 h (2 * j + 1)
    unfold odP
    omega
/-- Sums of bytes and of words of the same bytes fit together. -/
theorem words_law (s : List Int) (h : b8 s) (m : Nat) (hm : s.length = 2 * m) (hm3 : m ≤ 150) : ∃ p q : Nat, p ≤ 38250 ∧ q ≤ 38250 ∧
    sumV 5 s true = (256 * p + q, 0) ∧ sumV 5 s false = (256 * q + p, 0) ∧ sumV 3 (evL s (2 * m)) true = (p, 0) ∧ sumV 3 (odL s (2 * m)) true = (q, 0) ∧ sumV 3 s false = (p + q, 0) ∧ sumV 5 (s ++ [1]) true = (0, 5) := by
  have hp := evP_le s h m
  have hq := odP_le s h m
  refine ⟨evP s m, odP s m, by omega, by omega, ?_, ?_, ?_, ?_, ?_, ?_⟩
  · rw [sum_add 5 (by omega) s true m hm, show wdK 5 = 2 from rfl, add_two s h true m (by omega), if_pos rfl]
    show ((256 * evP s m + odP s m) % 4294967296, (0 : Int)) = _
    rw [Nat.mod_eq_of_lt (by omega)]
  · rw [sum_add 5 (by omega) s false m hm, show wdK 5 = 2 from rfl, add_two s h false m (by omega), if_neg (by decide)]
    show ((256 * odP s m + evP s m) % 4294967296, (0 : Int)) = _
    rw [Nat.mod_eq_of_lt (by omega)]
  · rw [sum_add 3 (by omega) _ true m (by rw [evL_len]; show (2 * m + 1) / 2 = 1 * m; omega), show wdK 3 = 1 from rfl, add_ev]
    show (evP s m % 4294967296, (0 : Int)) = _
    rw [Nat.mod_eq_of_lt (by omega)]
  · rw [sum_add 3 (by omega) _ true m (by rw [odL_len]; show 2 * m / 2 = 1 * m; omega), show wdK 3 = 1 from rfl, add_od]
    show (odP s m % 4294967296, (0 : Int)) = _
    rw [Nat.mod_eq_of_lt (by omega)]
  · rw [sum_add 3 (by omega) s false (2 * m) (by rw [hm]; show 2 * m = 1 * (2 * m); omega), show wdK 3 = 1 from rfl, add_all]
    show ((evP s m + odP s m) % 4294967296, (0 : Int)) = _
    rw [Nat.mod_eq_of_lt (by omega)]
  · unfold sumV
    have hne : ¬ (s ++ [1]).length % wdK 5 = 0 := by
      rw [List.length_append, hm]
      show ¬ (2 * m + 1) % 2 = 0
      omega
    rw [if_neg (by decide), if_neg hne]
theorem own_of_row {w : World} {base : Nat} {v : Value} {n : Nat} {xs : List Value} (h : w.ownsRow base 5 1 v n xs) : ∃ A c, v = .slice A n c ∧ Own w base 5 1 A n c xs := by
  obtain ⟨h1, ⟨h2, h3⟩ | ⟨g, cap, cur, h2, h3, h4, h5, h6, h7, h8⟩⟩ := h
  · subst h3
    obtain rfl : xs = [] := List.eq_nil_of_length_eq_zero (by omega)
    exact ⟨none, 0, h2, Own.nil _ _ _ _⟩
  · refine ⟨some ⟨g, 0, none⟩, cap, h2, h1, h5, h6, (fun h => by cases h), fun a ha => ?_⟩
    injection ha with ha
    subst ha
    exact ⟨g, 0, cur, rfl, h3, h4, by omega, by simpa using h8⟩
/-- append of bytes to bytes of another's that are full. -/
theorem wpList_grow8 {w : World} {ops : Array Oper} {rest : List Oper} {o : Oper} {a : Act} {Q : Exit → Act → World → Prop} (hgd : o.guard = none) (s x : Operand)
    (ho : o.op = .call { callee := .builtin .append, args := #[s, x], argTypes := #[25, 25] })
    (A : Option Addr) (n : Nat) (xs : List Int) (hs : a.eval s = .slice A n n) (hA : A = none → n = 0) (hx : xs.length = n) (hr : Rd w w.heap.size A (u8s xs))
    (g m c2 : Nat) (ys : List Int) (hy : a.eval x = .slice (some ⟨g, 0, none⟩) m c2) (hl : ys.length = m) (hr2 : Rd w w.heap.size (some ⟨g, 0, none⟩) (u8s ys)) (hm : 0 < m) (hnm : n + m ≤ 1000000)
    (h : ∀ A' c' w', Own w' w.heap.size 5 1 A' (n + m) c' (u8s (xs ++ ys)) → Below w.heap.size w w' → wpList Try.prog ops Q rest (a.put o.dst (.slice A' (n + m) c')) w') : wpList Try.prog ops Q (o :: rest) a w := by
  obtain ⟨i, hi, hz, hs', hby⟩ := info_parts info5
  refine wpList_append_grows w hgd s x 25 ho 5 i (.int .u8 0) 1 1 Try.underlying25 hi hz hs' hby rfl (by decide) A n n (u8s xs) hs (fun h => ⟨hA h, hA h⟩) (by simp [hx]) (fun b hb j u hu => ?_) ⟨g, 0, none⟩ m c2 (u8s ys) hy (by simp [hl]) (fun j u hu => ?_) (u8s_one _) (by omega) (by unfold maxLen; omega) (by omega) fun v' w' hrow hg => ?_
  · obtain ⟨b', o', e, _, hc⟩ := hr (by intro h; rw [h] at hu; cases hu)
    rw [hb] at e
    injection e with e
    subst e
    rw [show (⟨b', o', none⟩ : Addr).add j = ⟨b', o' + j, none⟩ by unfold Addr.add; split <;> simp_all]
    exact hc j u hu
  · obtain ⟨b', o', e, _, hc⟩ := hr2 (by intro h; rw [h] at hu; cases hu)
    injection e with e
    injection e with e1 e2
    subst e1 e2
    rw [show (⟨g, 0, none⟩ : Addr).add j = ⟨g, 0 + j, none⟩ by unfold Addr.add; split <;> simp_all]
    exact hc j u hu
  · obtain ⟨A', c', rfl, hown⟩ := own_of_row hrow
    refine h A' c' w' ?_ ((Below.refl _ _).grown hg (Nat.le_refl _) (fun k hk => by cases hk))
    rw [show u8s (xs ++ ys) = u8s xs ++ u8s ys from List.map_append]
    exact hown
end Go.Proofs.Ytpfcmepiiphbiaa
