/- What was sent is told by Rank, of one Rank in the order in which it was sent: the plain law. -/
import Derived.Test.YtbmkfjgodgmjnaaC3
namespace Go.Proofs.Ytbmkfjgodgmjnaa
open Go.RowKit
set_option linter.unusedVariables false
set_option linter.unusedSimpArgs false
theorem posN_cons (x : Fr) (L : List Fr) (y : Fr) (h : x.rank ≤ y.rank) : ∀ k, posN (x :: L) y (k + 1) = posN L y k + 1
  | 0 => by
    unfold posN
    rw [if_neg (by simp; omega)]
  | k + 1 => by
    have ih := posN_cons x L y h k
    rw [posN, posN.eq_2 L y k, ih]
    simp only [List.getD_cons_succ]
    split <;> rfl
theorem insB_cons (x : Fr) (L : List Fr) (y : Fr) (h : x.rank ≤ y.rank) : insB (x :: L) y = x :: insB L y := by
  unfold insB
  rw [List.length_cons, posN_cons x L y h]
  rfl
theorem posN_zero (L : List Fr) (x : Fr) (h : ∀ z ∈ L, x.rank < z.rank) : ∀ k, k ≤ L.length → posN L x k = 0
  | 0, _ => rfl
  | k + 1, hk => by
    rw [posN, if_pos (by
      rw [List.getD_eq_getElem?_getD, List.getElem?_eq_getElem (by omega)]
      exact h _ (List.getElem_mem _))]
    exact posN_zero L x h k (by omega)
theorem insB_first (L : List Fr) (x : Fr) (h : ∀ z ∈ L, x.rank < z.rank) : insB L x = x :: L := by
  unfold insB
  rw [posN_zero L x h _ (Nat.le_refl _)]
  rfl
/-- What was sent, by Rank. -/
def sent (l : List Fr) : List Fr := l.foldl insB []
theorem sent_snoc (l : List Fr) (y : Fr) : sent (l ++ [y]) = insB (sent l) y := by simp [sent]
theorem sent_mem : ∀ (n : Nat) (l : List Fr), l.length = n → ∀ y ∈ sent l, y ∈ l := by
  intro n
  induction n with
  | zero => intro l hl y hy; rw [List.eq_nil_of_length_eq_zero hl] at hy; cases hy
  | succ n ih =>
    intro l hl y hy
    obtain ⟨l', z, rfl⟩ : ∃ l' z, l = l' ++ [z] := ⟨l.dropLast, l.getLast (by intro e; rw [e] at hl; simp at hl), (List.dropLast_concat_getLast _).symm⟩
    rw [sent_snoc] at hy
    rcases insB_mem _ _ _ hy with h | rfl
    · exact List.mem_append_left _ (ih l' (by simpa using hl) y h)
    · simp
theorem sent_len : ∀ (n : Nat) (l : List Fr), l.length = n → (sent l).length = n := by
  intro n
  induction n with
  | zero => intro l hl; rw [List.eq_nil_of_length_eq_zero hl]; rfl
  | succ n ih =>
    intro l hl
    obtain ⟨l', z, rfl⟩ : ∃ l' z, l = l' ++ [z] := ⟨l.dropLast, l.getLast (by intro e; rw [e] at hl; simp at hl), (List.dropLast_concat_getLast _).symm⟩
    rw [sent_snoc, insB_len, ih l' (by simpa using hl)]
theorem sent_length (l : List Fr) : (sent l).length = l.length := sent_len _ l rfl
theorem sent_first (l1 : List Fr) (x : Fr) (h1 : ∀ z ∈ l1, x.rank < z.rank) : ∀ (n : Nat) (l2 : List Fr), l2.length = n → (∀ z ∈ l2, x.rank ≤ z.rank) → sent (l1 ++ x :: l2) = x :: sent (l1 ++ l2) := by
  intro n
  induction n with
  | zero =>
    intro l2 hl _
    rw [List.eq_nil_of_length_eq_zero hl, List.append_nil, sent_snoc]
    exact insB_first _ _ fun z hz => h1 z (sent_mem _ l1 rfl z hz)
  | succ n ih =>
    intro l2 hl h2
    obtain ⟨l', z, rfl⟩ : ∃ l' z, l2 = l' ++ [z] := ⟨l2.dropLast, l2.getLast (by intro e; rw [e] at hl; simp at hl), (List.dropLast_concat_getLast _).symm⟩
    have e1 : l1 ++ x :: (l' ++ [z]) = (l1 ++ x :: l') ++ [z] := by simp
    have e2 : l1 ++ (l' ++ [z]) = (l1 ++ l') ++ [z] := by simp
    rw [e1, e2, sent_snoc, sent_snoc, ih l' (by simpa using hl) (fun y hy => h2 y (by simp [hy])), insB_cons _ _ _ (h2 z (by simp))]
/-- Of the first k the first with the least Rank is number b. -/
structure Best (l : List Fr) (k b : Nat) : Prop where
  lt : b < k
  le : k ≤ l.length
  fst : ∀ i, i < b → (l.getD b Fr.none_).rank < (l.getD i Fr.none_).rank
  all : ∀ i, b ≤ i → i < k → (l.getD b Fr.none_).rank ≤ (l.getD i Fr.none_).rank
theorem Best.one {l : List Fr} (h : 0 < l.length) : Best l 1 0 := ⟨by decide, h, fun i hi => by omega, fun i h1 h2 => by
  obtain rfl : i = 0 := by omega
  exact Int.le_refl _⟩
theorem Best.stay {l : List Fr} {k b : Nat} (h : Best l k b) (hk : k < l.length) (hr : ¬ (l.getD k Fr.none_).rank < (l.getD b Fr.none_).rank) : Best l (k + 1) b :=
  ⟨by have := h.lt; omega, hk, h.fst, fun i h1 h2 => by
    rcases Nat.lt_or_ge i k with h3 | h3
    · exact h.all i h1 h3
    · obtain rfl : i = k := by omega
      omega⟩
theorem Best.new {l : List Fr} {k b : Nat} (h : Best l k b) (hk : k < l.length) (hr : (l.getD k Fr.none_).rank < (l.getD b Fr.none_).rank) : Best l (k + 1) k :=
  ⟨by omega, hk, fun i hi => by
    rcases Nat.lt_or_ge i b with h3 | h3
    · have := h.fst i h3
      omega
    · have := h.all i h3 hi
      omega, fun i h1 h2 => by
    obtain rfl : i = k := by omega
    exact Int.le_refl _⟩
theorem Best.sent {l : List Fr} {b : Nat} (h : Best l l.length b) : (Go.Proofs.Ytbmkfjgodgmjnaa.sent l) = l.getD b Fr.none_ :: Go.Proofs.Ytbmkfjgodgmjnaa.sent (l.take b ++ l.drop (b + 1)) := by
  have hb := h.lt
  obtain ⟨x, hx⟩ : ∃ x, l.getD b Fr.none_ = x := ⟨_, rfl⟩
  have hx2 : l[b] = x := by rw [← hx, List.getD_eq_getElem?_getD, List.getElem?_eq_getElem hb]; rfl
  have e : l = l.take b ++ x :: l.drop (b + 1) := by
    rw [← hx2, List.getElem_cons_drop, List.take_append_drop]
  rw [hx]
  conv => lhs; rw [e]
  refine sent_first _ _ (fun z hz => ?_) _ _ rfl fun z hz => ?_
  · obtain ⟨i, hi, rfl⟩ := List.mem_iff_getElem.1 hz
    rw [List.length_take] at hi
    have := h.fst i (by omega)
    rw [hx, List.getD_eq_getElem?_getD, List.getElem?_eq_getElem (by omega)] at this
    rw [List.getElem_take]
    exact this
  · obtain ⟨i, hi, rfl⟩ := List.mem_iff_getElem.1 hz
    rw [List.length_drop] at hi
    have := h.all (b + 1 + i) (by omega) (by omega)
    rw [hx, List.getD_eq_getElem?_getD, List.getElem?_eq_getElem (by omega)] at this
    rw [List.getElem_drop]
    exact this
/-- The best so far, as the law holds it: -1 ahead of the first. -/
def BestI (l : List Fr) (k : Nat) (v : Value) : Prop := (k = 0 ∧ v = .int .i64 (-1)) ∨ ∃ b : Nat, v = .int .i64 b ∧ Best l k b
end Go.Proofs.Ytbmkfjgodgmjnaa
