/- BusRanks: the plain law: frames go by Rank. -/
import Derived.Test.YtbmkfjgodgmjnaaD9
namespace Go.Proofs.Ytbmkfjgodgmjnaa
open Go.RowKit
set_option linter.unusedVariables false
set_option linter.unusedSimpArgs false
/-- The one that goes next has the least Rank, and of one Rank the least number. -/
theorem fst_none {L : List (Option Nat)} {s : Nat → Bx} : ∀ k, (fstK L s k).2.2 = false → ∀ j, j < k → ∀ x, L[j]? = some x → (hd s x).2 = false
  | 0, _, j, hj, _, _ => by omega
  | k + 1, h, j, hj, x, hx => by
    unfold fstK at h
    rcases Nat.lt_or_ge j k with hjk | hjk
    · refine fst_none k ?_ j hjk x hx
      split at h
      · exact h
      · split at h
        · simp at h
        · exact h
    · obtain rfl : j = k := by omega
      rw [hx] at h
      simp only at h
      cases hh : (hd s x).2 with
      | false => rfl
      | true =>
        rw [hh] at h
        simp only [Bool.true_and] at h
        split at h
        · simp at h
        · next hc => simp [h] at hc
theorem fst_least {L : List (Option Nat)} {s : Nat → Bx} : ∀ k, (fstK L s k).2.2 = true → ∀ j, j < k → ∀ x, L[j]? = some x → (hd s x).2 = true → (fstK L s k).2.1.rank < (hd s x).1.rank ∨ ((fstK L s k).2.1.rank = (hd s x).1.rank ∧ (fstK L s k).1 ≤ j)
  | 0, _, j, hj, _, _, _ => by omega
  | k + 1, h, j, hj, x, hx, ht => by
    have hlt := fstK_lt L s k
    unfold fstK at h ⊢
    cases hk : L[k]? with
    | none =>
      simp only [hk] at h ⊢
      have hjk : j < k := by
        rcases Nat.lt_or_ge j k with h' | h'
        · exact h'
        · obtain rfl : j = k := by omega
          rw [hx] at hk
          cases hk
      exact fst_least k h j hjk x hx ht
    | some y =>
      simp only [hk] at h ⊢
      by_cases hc : ((hd s y).2 && (!(fstK L s k).2.2 || decide ((hd s y).1.rank < (fstK L s k).2.1.rank))) = true
      · rw [if_pos hc]
        simp only [Bool.and_eq_true, Bool.or_eq_true, Bool.not_eq_true', decide_eq_true_eq] at hc
        rcases Nat.lt_or_ge j k with hjk | hjk
        · rcases hc.2 with h1 | h1
          · have := fst_none k h1 j hjk x hx
            rw [ht] at this
            cases this
          · cases ho : (fstK L s k).2.2 with
            | false =>
              have := fst_none k ho j hjk x hx
              rw [ht] at this
              cases this
            | true =>
              rcases fst_least k ho j hjk x hx ht with h2 | h2
              · exact .inl (by simp only; omega)
              · exact .inl (by simp only; omega)
        · obtain rfl : j = k := by omega
          rw [hx] at hk
          cases hk
          exact .inr ⟨rfl, Nat.le_refl _⟩
      · rw [if_neg hc] at h ⊢
        rcases Nat.lt_or_ge j k with hjk | hjk
        · exact fst_least k h j hjk x hx ht
        · obtain rfl : j = k := by omega
          rw [hx] at hk
          cases hk
          rw [ht, h] at hc
          simp at hc
          have := (hlt.2 h)
          rcases Int.lt_or_eq_of_le hc with h1 | h1
          · exact .inl h1
          · exact .inr ⟨h1, by omega⟩
/-- All that three nodes still have to send. -/
def tot (s : Nat → Bx) (q : Nat → Nat) : Nat := (s (q 0)).tx.length + (s (q 1)).tx.length + (s (q 2)).tx.length
/-- Three nodes without filters, what they send lies by Rank. -/
structure RK3 (s : Nat → Bx) (q : Nat → Nat) : Prop where
  fl : ∀ i, i < 3 → (s (q i)).fl = []
  so : ∀ i, i < 3 → srt (s (q i)).tx
/-- Nothing goes ahead of (last, who). -/
def Aft (s : Nat → Bx) (q : Nat → Nat) (last : Int) (who : Nat) : Prop := ∀ i, i < 3 → ∀ x ∈ (s (q i)).tx, last < x.rank ∨ (last = x.rank ∧ who ≤ i)
theorem takeX_no (a : Bx) (f : Fr) (h : a.fl = []) : takeX a f = a := by
  unfold takeX takeB anyB
  rw [h]
  simp
theorem hd_some (s : Nat → Bx) (x : Nat) : hd s (some x) = ((s x).tx.headD Fr.none_, !(s x).tx.isEmpty) := rfl
/-- A Turn, where something is to be sent. -/
theorem rk_turn {s : Nat → Bx} {q : Nat → Nat} (hq : inj3 q) (h : RK3 s q) {n : Nat} (hn : tot s q = n + 1) :
    ∃ (i : Nat) (f : Fr), i < 3 ∧ turnV (nodesL q) s 3 = (i, f, true) ∧ f ∈ (s (q i)).tx ∧ RK3 (turnS (nodesL q) s 3 false) q ∧ tot (turnS (nodesL q) s 3 false) q = n ∧ Aft (turnS (nodesL q) s 3 false) q f.rank i := by
  have hok : (fstK (nodesL q) s 3).2.2 = true := by
    cases ho : (fstK (nodesL q) s 3).2.2 with
    | true => rfl
    | false =>
      exfalso
      have e : ∀ i, i < 3 → (s (q i)).tx.length = 0 := fun i hi => by
        have := fst_none 3 ho i hi _ (nodesL_get q hi)
        rw [hd_some] at this
        simpa using this
      have e0 := e 0 (by decide)
      have e1 := e 1 (by decide)
      have e2 := e 2 (by decide)
      unfold tot at hn
      omega
  have hi := (fstK_lt (nodesL q) s 3).2 hok
  obtain ⟨x, hx, hf, hne⟩ := fstK_some (nodesL q) s 3 hok
  have hL := fun j hj => fst_least (L := nodesL q) (s := s) 3 hok j hj _ (nodesL_get q hj)
  obtain ⟨⟨i, f, b⟩, hF⟩ : ∃ z, fstK (nodesL q) s 3 = z := ⟨_, rfl⟩
  rw [hF] at hok hi hx hf hL
  simp only at hok hi hx hf hL
  subst hok
  rw [nodesL_get q hi] at hx
  simp only [Option.some.injEq] at hx
  subst hx
  obtain ⟨y, l, hl⟩ : ∃ y l, (s (q i)).tx = y :: l := by
    cases hl : (s (q i)).tx with
    | nil => exact absurd hl hne
    | cons y l => exact ⟨y, l, rfl⟩
  obtain rfl : f = y := by rw [hl] at hf; exact hf
  have hS : ∀ j, j < 3 → turnS (nodesL q) s 3 false (q j) = if j = i then { s (q i) with tx := l } else s (q j) := fun j hj => by
    unfold turnS
    rw [hF]
    simp only [if_true, nodesL_get q hi]
    rw [afterT_at hq s hi f false j hj, hl]
    by_cases hji : j = i
    · rw [if_pos hji, if_pos hji]; rfl
    · rw [if_neg hji, if_neg hji]
      simp [takeX_no _ f (h.fl j hj)]
  have hso := h.so i hi
  rw [hl] at hso
  refine ⟨i, f, hi, by unfold turnV; rw [hF]; rfl, by rw [hl]; simp, ⟨fun j hj => ?_, fun j hj => ?_⟩, ?_, fun j hj z hz => ?_⟩
  · rw [hS j hj]
    split
    · exact h.fl i hi
    · exact h.fl j hj
  · rw [hS j hj]
    split
    · exact srt_tail hso
    · exact h.so j hj
  · have l0 := hS 0 (by decide)
    have l1 := hS 1 (by decide)
    have l2 := hS 2 (by decide)
    unfold tot at hn ⊢
    rw [l0, l1, l2]
    rcases (by omega : i = 0 ∨ i = 1 ∨ i = 2) with rfl | rfl | rfl <;> rw [hl] at hn <;> simp at hn ⊢ <;> omega
  · rw [hS j hj] at hz
    by_cases hji : j = i
    · subst hji
      rw [if_pos rfl] at hz
      rcases Int.lt_or_eq_of_le (srt_head hso z hz) with h1 | h1
      · exact .inl h1
      · exact .inr ⟨h1, Nat.le_refl _⟩
    · rw [if_neg hji] at hz
      have hs := h.so j hj
      cases hlj : (s (q j)).tx with
      | nil => rw [hlj] at hz; simp at hz
      | cons g m =>
        have := hL j hj (by rw [hd_some, hlj]; rfl)
        rw [hd_some, hlj] at this
        rw [hlj] at hs hz
        have hgz : g.rank ≤ z.rank := by
          rcases List.mem_cons.1 hz with rfl | hz
          · exact Int.le_refl _
          · exact srt_head hs z hz
        have this : f.rank < g.rank ∨ (f.rank = g.rank ∧ i ≤ j) := this
        rcases this with h1 | ⟨h1, h2⟩
        · exact .inl (by omega)
        · rcases Int.lt_or_eq_of_le hgz with h3 | h3
          · exact .inl (by omega)
          · exact .inr ⟨by omega, h2⟩
/-- A Turn, where nothing is to be sent. -/
theorem rk_end {s : Nat → Bx} {q : Nat → Nat} (hn : tot s q = 0) : turnV (nodesL q) s 3 = (0, Fr.none_, false) ∧ turnS (nodesL q) s 3 false = s := by
  have hok : (fstK (nodesL q) s 3).2.2 = false := by
    cases ho : (fstK (nodesL q) s 3).2.2 with
    | false => rfl
    | true =>
      exfalso
      have hi := (fstK_lt (nodesL q) s 3).2 ho
      obtain ⟨x, hx, hf, hne⟩ := fstK_some (nodesL q) s 3 ho
      rw [nodesL_get q hi] at hx
      simp only [Option.some.injEq] at hx
      subst hx
      apply hne
      apply List.eq_nil_of_length_eq_zero
      unfold tot at hn
      rcases (by omega : (fstK (nodesL q) s 3).1 = 0 ∨ (fstK (nodesL q) s 3).1 = 1 ∨ (fstK (nodesL q) s 3).1 = 2) with e | e | e <;> rw [e] <;> omega
  unfold turnV turnS
  rw [hok]
  exact ⟨rfl, rfl⟩
theorem Aft.start (s : Nat → Bx) (q : Nat → Nat) (hr : ∀ i, i < 3 → ∀ x ∈ (s (q i)).tx, 0 ≤ x.rank) : Aft s q 0 0 := fun i hi x hx => by
  rcases Int.lt_or_eq_of_le (hr i hi x hx) with h | h
  · exact .inl h
  · exact .inr ⟨h, Nat.zero_le _⟩
/-- A Send of a frame that may be, where less than three wait. -/
theorem rk_send {s : Nat → Bx} {q : Nat → Nat} (hq : inj3 q) (h : RK3 s q) {i : Nat} (hi : i < 3) {f : Fr} (hm : f.may = true) (hl : (s (q i)).tx.length < 3) :
    sendE (s (q i)) f = 0 ∧ RK3 (upd s (q i) (sendX (s (q i)) f)) q ∧ (∀ j, j < 3 → (upd s (q i) (sendX (s (q i)) f) (q j)).tx.length = if j = i then (s (q i)).tx.length + 1 else (s (q j)).tx.length) := by
  have hE : sendE (s (q i)) f = 0 := by
    unfold sendE
    rw [hm, if_neg (by simp), if_neg (by omega)]
  have hX : sendX (s (q i)) f = { s (q i) with tx := insB (s (q i)).tx f } := by
    unfold sendX
    rw [if_pos hE]
  have hu : ∀ j, j < 3 → upd s (q i) (sendX (s (q i)) f) (q j) = if j = i then { s (q i) with tx := insB (s (q i)).tx f } else s (q j) := fun j hj => by
    by_cases hji : j = i
    · subst hji; rw [upd_eq, if_pos rfl, hX]
    · rw [upd_ne _ _ (fun e => hji (hq j i hj hi e)), if_neg hji]
  refine ⟨hE, ⟨fun j hj => ?_, fun j hj => ?_⟩, fun j hj => ?_⟩
  · rw [hu j hj]
    split
    · exact h.fl i hi
    · exact h.fl j hj
  · rw [hu j hj]
    split
    · exact insB_srt (h.so i hi) f
    · exact h.so j hj
  · rw [hu j hj]
    split
    · exact insB_len _ _
    · rfl
end Go.Proofs.Ytbmkfjgodgmjnaa
