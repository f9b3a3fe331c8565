/- A row of names that came in, opened. -/
import Derived.Test.YtmcmlglacblkiaaYO
import Derived.Deep.Slices
import Derived.Deep.Fields
import Derived.ChangeSlices
namespace Go.Proofs.Ytmcmlglacblkiaa
open Go.RowKit Go.ChangeShapes Go.WideShapes Go.ChangeAt Go.Deep
set_option linter.unusedVariables false
set_option linter.unusedSimpArgs false
theorem list_of {α : Type} (p : Nat → α → Prop) : ∀ n : Nat, (∀ i, i < n → ∃ a, p i a) → ∃ l : List α, l.length = n ∧ ∀ i a, l[i]? = some a → p i a
  | 0, _ => ⟨[], rfl, fun i a h => by simp at h⟩
  | n + 1, h => by
    obtain ⟨l, hl, hp⟩ := list_of p n fun i hi => h i (by omega)
    obtain ⟨a, ha⟩ := h n (by omega)
    refine ⟨l ++ [a], by simp [hl], fun i b hb => ?_⟩
    rcases Nat.lt_or_ge i n with hi | hi
    · rw [List.getElem?_append_left (by omega)] at hb
      exact hp i b hb
    · rw [List.getElem?_append_right (by omega)] at hb
      obtain ⟨h0, hb⟩ := List.getElem?_eq_some_iff.1 hb
      simp at h0
      obtain rfl : i = n := by omega
      simp at hb
      subst hb
      exact ha
theorem cellsS_split (l : List Sy) (i : Nat) (u : Value) (h : (cellsS l)[i]? = some u) : ∃ s, l[i / 8]? = some s ∧ s.cs[i % 8]? = some u := by
  have hd := cellsS_drop l (i / 8)
  have hi : i / 8 * 8 + i % 8 = i := by omega
  have h1 : ((cellsS l).drop (i / 8 * 8))[i % 8]? = some u := by rw [List.getElem?_drop, hi]; exact h
  rw [hd] at h1
  cases hl : l.drop (i / 8) with
  | nil => rw [hl] at h1; cases h1
  | cons s r =>
    refine ⟨s, ?_, ?_⟩
    · have : (l.drop (i / 8))[0]? = some s := by rw [hl]; rfl
      rwa [List.getElem?_drop, Nat.add_zero] at this
    · rw [hl] at h1
      have hm : i % 8 < 8 := Nat.mod_lt _ (by decide)
      obtain ⟨j, hj⟩ : ∃ j, i % 8 = j := ⟨_, rfl⟩
      rw [hj] at h1 hm ⊢
      match j, hm, h1 with
      | 0, _, h1 => exact h1
      | 1, _, h1 => exact h1
      | 2, _, h1 => exact h1
      | 3, _, h1 => exact h1
      | 4, _, h1 => exact h1
      | 5, _, h1 => exact h1
      | 6, _, h1 => exact h1
      | 7, _, h1 => exact h1
theorem open_syms {H : Type} {enc : TypeId × Value → H} {w : World} {base : Nat} {spare : Nat → Bool} {held : Bool} {fuel : Nat} {cs : List Value} {x : DataW H × List MemPlace} (h : DataW.trod enc Try.prog w base spare held fuel 26 cs = some x) :
    ∃ (A : Option Addr) (n c : Nat) (l : List Sy), cs = [.slice A n c] ∧ n ≤ c ∧ c ≤ maxLen ∧ (A = none → n = 0 ∧ c = 0) ∧ l.length = n ∧ (∀ t ∈ l, t.wf) ∧ Rd w w.heap.size A (cellsS l) := by
  rcases open_slice Try.underlying26 h with ⟨hcs, _⟩ | ⟨a, len, cap, m, n, D, Pl, hcs, hb, hl, hm, hmm, hx, hi⟩
  · exact ⟨none, 0, 0, [], hcs, Nat.le_refl _, Nat.zero_le _, fun _ => ⟨rfl, rfl⟩, rfl, fun t h => (by cases h), fun h => absurd rfl h⟩
  · have hlm : len ≤ m := by rw [hmm]; split <;> omega
    rw [cellsOf24] at hi
    obtain ⟨l, hll, hp⟩ := list_of (fun i (t : Sy) => t.wf ∧ ∀ j u, t.cs[j]? = some u → w.cell? (a.add (i * 8 + j)) = some u) len fun i hlt => by
      obtain ⟨cs', hc, hd⟩ := hi i (by omega)
      obtain ⟨_, hcl, hat⟩ := World.cells?_some hc
      obtain ⟨s, rfl, hw⟩ := sym_cells hd
      refine ⟨s, hw, fun j u hu => ?_⟩
      rw [← Go.Deep.add_add]
      have hj : j < 8 := by
        have := (Array.getElem?_eq_some_iff.1 hu).1
        simpa using this
      have := hat j hj
      rw [this]
      simpa using hu
    refine ⟨some a, len, cap, l, hcs, hl, hm, fun h => (by cases h), hll, fun t ht => ?_, fun hn => ?_⟩
    · obtain ⟨i, hi⟩ := List.getElem?_of_mem ht
      exact (hp i t hi).1
    · obtain ⟨t0, ht0⟩ : ∃ t, l[0]? = some t := by
        cases l with
        | nil => exact absurd rfl hn
        | cons t l => exact ⟨t, rfl⟩
      have h0 := (hp 0 t0 ht0).2 0 _ rfl
      obtain ⟨b, o, s⟩ := a
      obtain rfl : s = none := by simpa [Addr.add] using World.cell?_spot h0
      refine ⟨b, o, rfl, World.block_lt_of_cell? _ ⟨b, o, none⟩ (by simpa [Addr.add] using h0), fun i u hu => ?_⟩
      obtain ⟨t, h1, h2⟩ := cellsS_split l i u hu
      have := (hp _ t h1).2 _ _ h2
      rw [add_none] at this
      rw [show o + i = o + (i / 8 * 8 + i % 8) by omega]
      exact this
end Go.Proofs.Ytmcmlglacblkiaa
