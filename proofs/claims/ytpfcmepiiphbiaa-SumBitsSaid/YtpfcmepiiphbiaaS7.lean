/- Chapter 5: plain laws of sums that are added; joined bytes; the laws' slices. -/
import Derived.Test.YtpfcmepiiphbiaaS6
namespace Go.Proofs.Ytpfcmepiiphbiaa
open Go.RowKit
set_option linter.unusedVariables false
set_option linter.unusedSimpArgs false
theorem wordV_left (xs ys : List Int) (wd : Nat) (big : Bool) (t : Nat) (h : t + wd ≤ xs.length) : wordV (xs ++ ys) wd big t = wordV xs wd big t := by
  unfold wordV
  rw [List.drop_append_of_le_length (by omega), List.take_append_of_le_length (by rw [List.length_drop]; omega)]
theorem wordV_right (xs ys : List Int) (wd : Nat) (big : Bool) (t : Nat) : wordV (xs ++ ys) wd big (xs.length + t) = wordV ys wd big t := by
  unfold wordV
  rw [← List.drop_drop, List.drop_left]
theorem addV_left (xs ys : List Int) (wd : Nat) (big : Bool) : ∀ i, wd * i ≤ xs.length → addV (xs ++ ys) wd big i = addV xs wd big i
  | 0, _ => rfl
  | i + 1, h => by
    have h' : wd * i + wd ≤ xs.length := by rw [Nat.mul_succ] at h; exact h
    unfold addV
    rw [addV_left xs ys wd big i (by omega), wordV_left xs ys wd big (wd * i) h']
theorem addV_app (xs ys : List Int) (wd : Nat) (big : Bool) (i : Nat) (hx : xs.length = wd * i) : ∀ j, addV (xs ++ ys) wd big (i + j) = addV xs wd big i + addV ys wd big j
  | 0 => by rw [Nat.add_zero, addV_left xs ys wd big i (by omega)]; rfl
  | j + 1 => by
    have ih := addV_app xs ys wd big i hx j
    show addV (xs ++ ys) wd big (i + j) + wordV (xs ++ ys) wd big (wd * (i + j)) = _
    rw [ih, Nat.mul_add, ← hx, wordV_right]
    show _ = addV xs wd big i + (addV ys wd big j + wordV ys wd big (wd * j))
    omega
theorem wideK_dvd (k r : Nat) : r % 4294967296 % wideK k = r % wideK k := by
  unfold wideK
  split
  · omega
  · split <;> omega
/-- A sum that is added. -/
theorem sum_add (k : Nat) (hk : 1 ≤ k ∧ k ≤ 6) (xs : List Int) (big : Bool) (i : Nat) (h : xs.length = wdK k * i) : sumV k xs big = (addV xs (wdK k) big i % wideK k, 0) := by
  have hw : 0 < wdK k := by
    obtain rfl | rfl | rfl | rfl | rfl | rfl : k = 1 ∨ k = 2 ∨ k = 3 ∨ k = 4 ∨ k = 5 ∨ k = 6 := by omega
    all_goals decide
  unfold sumV
  rw [if_neg (by omega), if_pos (by rw [h]; exact Nat.mul_mod_right _ _), h, Nat.mul_div_cancel_left i hw, accK_add k (by omega)]
  unfold finK
  rw [if_neg (by omega), wideK_dvd]
theorem wdK4 (k : Nat) (hk : 1 ≤ k ∧ k ≤ 9) (n : Nat) (h : n % 4 = 0) : ∃ i, n = wdK k * i := by
  obtain rfl | rfl | rfl | rfl | rfl | rfl | rfl | rfl | rfl : k = 1 ∨ k = 2 ∨ k = 3 ∨ k = 4 ∨ k = 5 ∨ k = 6 ∨ k = 7 ∨ k = 8 ∨ k = 9 := by omega
  · exact ⟨n, by show n = 1 * n; omega⟩
  · exact ⟨n, by show n = 1 * n; omega⟩
  · exact ⟨n, by show n = 1 * n; omega⟩
  · exact ⟨n / 2, by show n = 2 * (n / 2); omega⟩
  · exact ⟨n / 2, by show n = 2 * (n / 2); omega⟩
  · exact ⟨n / 4, by show n = 4 * (n / 4); omega⟩
  · exact ⟨n, by show n = 1 * n; omega⟩
  · exact ⟨n, by show n = 1 * n; omega⟩
  · exact ⟨n, by show n = 1 * n; omega⟩
/-- Sums of words do not hang on their order. -/
theorem order_law (k : Nat) (hk : 1 ≤ k ∧ k ≤ 6) (a b : List Int) (big : Bool) (ha : a.length % 4 = 0) (hb : b.length % 4 = 0) :
    ∃ p q, sumV k a big = (p, 0) ∧ sumV k b big = (q, 0) ∧ sumV k (a ++ b) big = ((p + q) % wideK k, 0) ∧ sumV k (b ++ a) big = ((p + q) % wideK k, 0) ∧ p < wideK k ∧ q < wideK k := by
  obtain ⟨i, hi⟩ := wdK4 k (by omega) a.length ha
  obtain ⟨j, hj⟩ := wdK4 k (by omega) b.length hb
  have hw : 0 < wideK k := by
    obtain rfl | rfl | rfl | rfl | rfl | rfl : k = 1 ∨ k = 2 ∨ k = 3 ∨ k = 4 ∨ k = 5 ∨ k = 6 := by omega
    all_goals decide
  refine ⟨_, _, sum_add k hk a big i hi, sum_add k hk b big j hj, ?_, ?_, Nat.mod_lt _ hw, Nat.mod_lt _ hw⟩
  · rw [sum_add k hk (a ++ b) big (i + j) (by rw [List.length_append, hi, hj, Nat.mul_add]), addV_app a b _ big i hi j, ← Nat.add_mod]
  · rw [sum_add k hk (b ++ a) big (j + i) (by rw [List.length_append, hi, hj, Nat.mul_add]), addV_app b a _ big j hj i, Nat.add_comm, ← Nat.add_mod]
/-- Bytes of the laws: the first 300, four by four. -/
theorem few_cut {w : World} {A : Option Addr} {n : Nat} {xs : List Int} (hx : xs.length = n) (hr : Rd w w.heap.size A (u8s xs)) (hu : b8 xs) :
    ∃ N q X s, min n 300 = N ∧ N / 4 = q ∧ q * 4 = X ∧ X ≤ N ∧ N ≤ 300 ∧ N ≤ n ∧ s.length = X ∧ Rd w w.heap.size A (u8s s) ∧ b8 s :=
  ⟨min n 300, _, _, xs.take (min n 300 / 4 * 4), rfl, rfl, rfl, by omega, by omega, by omega, by rw [List.length_take]; omega, hr.take' _, fun x hx' => hu x (List.mem_of_mem_take hx')⟩
/-- sum.Of of bytes of the call's own. -/
theorem of_own {base : Nat} (k : Nat) (A : Option Addr) (n c : Nat) (xs : List Int) (big : Bool) (w : World) (h : Own w base 5 1 A n c (u8s xs)) (hx : xs.length = n) (hl : n ≤ 100000) (hu : b8 xs) :
    Calls Try.prog 28 #[.int .u8 k, .slice A n c, .bool big] w (OfP w k xs big) :=
  of_any k A n c xs big w hx h.rd (fun hA => by have h1 := h.2.2.2.1 hA; have h2 := h.2.1; omega) h.2.1 hl h.2.2.1 hu
theorem Own.zero (w : World) (hb : Nat) (h : hb ≤ w.heap.size) : Own (w.alloc (.cells #[] 5)) hb 5 1 (some ⟨w.heap.size, 0, none⟩) 0 0 (u8s []) := Own.made w h #[] 0 0 (Nat.le_refl _) (by decide) rfl
section
variable {P : Program} {w : World}
/-- append of bytes, to bytes of the call's own. -/
theorem wpList_app8 {ops : Array Oper} {rest : List Oper} {o : Oper} {a : Act} {Q : Exit → Act → World → Prop} (hgd : o.guard = none) (s x : Operand)
    (ho : o.op = .call { callee := .builtin .append, args := #[s, x], argTypes := #[25, 25] })
    (base : Nat) (A : Option Addr) (n c : Nat) (xs : List Int) (hs : a.eval s = .slice A n c) (hown : Own w base 5 1 A n c (u8s xs))
    (A2 : Option Addr) (m c2 : Nat) (ys : List Int) (hx : a.eval x = .slice A2 m c2) (hl : ys.length = m) (hr : Rd w w.heap.size A2 (u8s ys)) (hnm : n + m ≤ 1000000) (hb : base ≤ w.heap.size)
    (h : ∀ A' c' w', Own w' base 5 1 A' (n + m) c' (u8s (xs ++ ys)) → Below base w w' → wpList Try.prog ops Q rest (a.put o.dst (.slice A' (n + m) c')) w') : wpList Try.prog ops Q (o :: rest) a w :=
  wpList_app w hgd s x 25 ho base 5 (.int .u8 0) 1 1 Try.underlying25 info5 rfl (by decide) A n c (u8s xs) hs hown w.heap.size A2 m c2 (u8s ys) hx (by simp [hl]) hr (u8s_one _) (by unfold maxLen; omega) (by omega) hb
    fun A' c' w' h2 h3 _ => h A' c' w' (by rw [show u8s (xs ++ ys) = u8s xs ++ u8s ys from List.map_append]; exact h2) ((Below.refl _ _).grown h3 hb (fun k hk => (hown.lt hk).1))
end
theorem conv64 (v : Nat) (h : v < 4294967296) : IntKind.u64.wrap (v : Int) = (v : Int) := by rw [IntKind.wrap_u64]; omega
end Go.Proofs.Ytpfcmepiiphbiaa
