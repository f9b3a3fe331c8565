/- The bus: what three nodes say. -/
import Derived.Test.YtbmkfjgodgmjnaaD6
namespace Go.Proofs.Ytbmkfjgodgmjnaa
open Go.RowKit
set_option linter.unusedVariables false
set_option linter.unusedSimpArgs false
/-- Three nodes. -/
def nodesL (q : Nat → Nat) : List (Option Nat) := [some (q 0), some (q 1), some (q 2)]
def inj3 (q : Nat → Nat) : Prop := ∀ i j, i < 3 → j < 3 → q i = q j → i = j
def in3 (q : Nat → Nat) (x : Nat) : Prop := ∃ i, i < 3 ∧ x = q i
theorem nodesL_get (q : Nat → Nat) {i : Nat} (h : i < 3) : (nodesL q)[i]? = some (some (q i)) := by
  rcases (by omega : i = 0 ∨ i = 1 ∨ i = 2) with rfl | rfl | rfl <;> rfl
theorem nodesL_in (q : Nat → Nat) : ∀ x, some x ∈ nodesL q → in3 q x := fun x h => by
  simp [nodesL] at h
  rcases h with rfl | rfl | rfl
  · exact ⟨0, by decide, rfl⟩
  · exact ⟨1, by decide, rfl⟩
  · exact ⟨2, by decide, rfl⟩
theorem nodesL_nd {q : Nat → Nat} (h : inj3 q) : (nodesL q).Nodup := by
  simp only [nodesL, List.nodup_cons, List.mem_cons, Option.some.injEq, List.not_mem_nil, or_false, List.nodup_nil, not_false_eq_true, and_true, not_or]
  exact ⟨⟨fun e => by have := h 0 1 (by decide) (by decide) e; omega, fun e => by have := h 0 2 (by decide) (by decide) e; omega⟩, fun e => by have := h 1 2 (by decide) (by decide) e; omega⟩
/-- What nodes leaves, by number. -/
def NodesQ (B : Nat) (W0 : World) (fl : Nat → List Flt) (Φ : Who) (w : World) (e : Ending) (w' : World) : Prop :=
  ∃ A c q A' c' r s t Φ', e = .returned (.tuple #[.slice A 3 c, .slice A' 3 c']) ∧ 3 ≤ c ∧ c ≤ maxLen ∧ 3 ≤ c' ∧ c' ≤ maxLen ∧ inj3 q ∧ inj3 r ∧ (∀ i, i < 3 → s (q i) = b0 ((fl i).take 4)) ∧ (∀ i, i < 3 → t (r i) = b0 ((fl i).take 4)) ∧
    NS B (in3 q) (in3 r) W0 A (nodesL q) A' (nodesL r) s t Φ' w' ∧ Below w.heap.size w w' ∧ ∀ g, g < w.heap.size → Φ' g = Φ g
theorem nodes_q (B : Nat) (W0 : World) (Φ : Who) (w : World) (hB : B ≤ w.heap.size) (hN : Nu Φ w) (hN8 : ∀ g, Φ g ≠ (0, 8)) (hbW0 : Below W0.heap.size W0 w) (hW0 : W0.heap.size ≤ B) (Ad : Nat → Option Addr) (ns cs : Nat → Nat) (fl : Nat → List Flt)
    (hl : ∀ i, i < 3 → (fl i).length = ns i ∧ ns i ≤ cs i ∧ cs i ≤ maxLen ∧ (Ad i = none → ns i = 0 ∧ cs i = 0) ∧ Rd w w.heap.size (Ad i) (flcells (fl i)) ∧ ∀ x ∈ fl i, x.wf) :
    Calls Try.prog 36 #[.agg #[.slice (Ad 0) (ns 0) (cs 0), .slice (Ad 1) (ns 1) (cs 1), .slice (Ad 2) (ns 2) (cs 2)]] w (NodesQ B W0 fl Φ w) := by
  refine (nodes_any B W0 Φ w hB hN hN8 hbW0 hW0 Ad ns cs fl hl).mono ?_
  rintro e w' ⟨A, c, q0, q1, q2, A', c', r0, r1, r2, s, t, Φ', rfl, h1, h2, h3, h4, n1, n2, n3, m1, m2, m3, v0, v1, v2, u0, u1, u2, H, hb, hΦ⟩
  have inj : ∀ {a b c : Nat}, a ≠ b → a ≠ c → b ≠ c → inj3 (fun i => if i = 0 then a else if i = 1 then b else c) := fun {a b c} n1 n2 n3 i j hi hj h => by
    rcases (by omega : i = 0 ∨ i = 1 ∨ i = 2) with rfl | rfl | rfl <;> rcases (by omega : j = 0 ∨ j = 1 ∨ j = 2) with rfl | rfl | rfl <;> simp_all
  have in_ : ∀ {a b c : Nat}, (fun x => x = a ∨ x = b ∨ x = c) = in3 (fun i => if i = 0 then a else if i = 1 then b else c) := fun {a b c} => by
    funext x
    apply propext
    constructor
    · rintro (rfl | rfl | rfl)
      · exact ⟨0, by decide, rfl⟩
      · exact ⟨1, by decide, rfl⟩
      · exact ⟨2, by decide, rfl⟩
    · rintro ⟨i, hi, rfl⟩
      rcases (by omega : i = 0 ∨ i = 1 ∨ i = 2) with rfl | rfl | rfl <;> simp
  rw [in_, in_] at H
  refine ⟨A, c, _, A', c', _, s, t, Φ', rfl, h1, h2, h3, h4, inj n1 n2 n3, inj m1 m2 m3, fun i hi => ?_, fun i hi => ?_, H, hb, hΦ⟩
  · rcases (by omega : i = 0 ∨ i = 1 ∨ i = 2) with rfl | rfl | rfl
    · exact v0
    · exact v1
    · exact v2
  · rcases (by omega : i = 0 ∨ i = 1 ∨ i = 2) with rfl | rfl | rfl
    · exact u0
    · exact u1
    · exact u2
/-- A Put: each node once. -/
theorem putK_at {L : List (Option Nat)} (hn : L.Nodup) (s : Nat → Bx) (f : Fr) : ∀ k, ∀ x, (putK L s f k).1 x = if some x ∈ L.take k then takeX (s x) f else s x
  | 0, x => by simp [putK]
  | k + 1, x => by
    have ih := putK_at hn s f k
    unfold putK
    cases hk : L[k]? with
    | none =>
      have : L.take (k + 1) = L.take k := by
        have := List.getElem?_eq_none_iff.1 hk
        rw [List.take_of_length_le (by omega), List.take_of_length_le (by omega)]
      rw [this]
      exact ih x
    | some y =>
      have hlt := (List.getElem?_eq_some_iff.1 hk).1
      have ht : L.take (k + 1) = L.take k ++ [y] := by
        rw [List.take_succ_eq_append_getElem hlt, (List.getElem?_eq_some_iff.1 hk).2]
      cases y with
      | none =>
        rw [ht]
        dsimp only
        rw [ih x]
        simp
      | some q =>
        dsimp only
        have hq : some q ∉ L.take k := fun hm => by
          have h2 : (L.take (k + 1)).Nodup := hn.sublist (List.take_sublist _ _)
          rw [ht, List.nodup_append] at h2
          exact h2.2.2 _ hm _ (by simp) rfl
        by_cases hx : x = q
        · subst hx
          rw [upd_eq, ih x, if_neg hq, ht, if_pos (by simp)]
        · rw [upd_ne _ _ hx, ih x, ht]
          simp [hx]
/-- Where but one of three nodes has something to send, it goes next. -/
theorem fst_one {q : Nat → Nat} {s : Nat → Bx} {i : Nat} {f : Fr} {r : List Fr} (hi : i < 3) (h : (s (q i)).tx = f :: r) (hno : ∀ j, j < 3 → j ≠ i → (s (q j)).tx = []) : fstK (nodesL q) s 3 = (i, f, true) := by
  have hd0 : ∀ j, j < 3 → hd s (some (q j)) = if j = i then (f, true) else (Fr.none_, false) := fun j hj => by
    by_cases hji : j = i
    · subst hji
      rw [if_pos rfl]
      simp [hd, h]
    · rw [if_neg hji]
      simp [hd, hno j hj hji]
  have h0 := hd0 0 (by decide)
  have h1 := hd0 1 (by decide)
  have h2 := hd0 2 (by decide)
  rcases (by omega : i = 0 ∨ i = 1 ∨ i = 2) with rfl | rfl | rfl
  · simp at h0 h1 h2
    simp [fstK, nodesL, h0, h1, h2]
  · simp at h0 h1 h2
    simp [fstK, nodesL, h0, h1, h2]
  · simp at h0 h1 h2
    simp [fstK, nodesL, h0, h1, h2]
/-- The other nodes take the frame, unless it is lost. -/
theorem afterT_at {q : Nat → Nat} (hq : inj3 q) (s : Nat → Bx) {i : Nat} (hi : i < 3) (f : Fr) (lost : Bool) : ∀ j, j < 3 → afterT (nodesL q) s (q i) i 3 f lost (q j) = if j = i then { s (q i) with tx := (s (q i)).tx.tail } else if lost then s (q j) else takeX (s (q j)) f := fun j hj => by
  have hne : ∀ j, j < 3 → j ≠ i → q j ≠ q i := fun j hj h e => h (hq j i hj hi e)
  unfold afterT
  cases lost with
  | true =>
    simp only [if_true]
    by_cases hji : j = i
    · subst hji; rw [upd_eq, if_pos rfl]
    · rw [upd_ne _ _ (hne j hj hji), if_neg hji]
  | false =>
    simp only [Bool.false_eq_true, if_false]
    have hn := nodesL_nd hq
    rw [putK_at (hn.sublist (List.drop_sublist _ _)), putK_at (hn.sublist (List.take_sublist _ _))]
    have mem : ∀ j, j < 3 → (some (q j) ∈ ((nodesL q).drop (i + 1)).take (3 - (i + 1)) ↔ i < j) ∧ (some (q j) ∈ ((nodesL q).take i).take i ↔ j < i) := fun j hj => by
      have e : ∀ a b, a < 3 → b < 3 → (q a = q b ↔ a = b) := fun a b ha hb => ⟨hq a b ha hb, fun h => by rw [h]⟩
      rcases (by omega : i = 0 ∨ i = 1 ∨ i = 2) with rfl | rfl | rfl <;> rcases (by omega : j = 0 ∨ j = 1 ∨ j = 2) with rfl | rfl | rfl <;> simp [nodesL, e]
    obtain ⟨m1, m2⟩ := mem j hj
    by_cases hji : j = i
    · subst hji
      rw [if_neg (fun h => by have := m1.1 h; omega), if_neg (fun h => by have := m2.1 h; omega), upd_eq, if_pos rfl]
    · rw [if_neg hji, upd_ne _ _ (hne j hj hji)]
      rcases Nat.lt_or_ge j i with hlt | hge
      · rw [if_neg (fun h => by have := m1.1 h; omega), if_pos (m2.2 hlt)]
      · rw [if_pos (m1.2 (by omega)), if_neg (fun h => by have := m2.1 h; omega)]
end Go.Proofs.Ytbmkfjgodgmjnaa
