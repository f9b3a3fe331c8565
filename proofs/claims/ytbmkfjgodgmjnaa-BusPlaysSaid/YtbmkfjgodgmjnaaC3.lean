/- Frames that wait go by Rank: the plain law. -/
import Derived.Test.YtbmkfjgodgmjnaaC1
namespace Go.Proofs.Ytbmkfjgodgmjnaa
open Go.RowKit
set_option linter.unusedVariables false
set_option linter.unusedSimpArgs false
/-- By Rank. -/
def srt (l : List Fr) : Prop := l.Pairwise fun a b => a.rank ≤ b.rank
theorem posN_ge (l : List Fr) (f : Fr) : ∀ (k i : Nat), posN l f k ≤ i → i < k → f.rank < (l.getD i Fr.none_).rank
  | 0, i, _, h => by omega
  | k + 1, i, h1, h2 => by
    unfold posN at h1
    split at h1
    · next hlt =>
      rcases Nat.lt_or_ge i k with h | h
      · exact posN_ge l f k i h1 h
      · obtain rfl : i = k := by omega
        exact hlt
    · omega
theorem posN_lt (l : List Fr) (f : Fr) : ∀ (k : Nat), 0 < posN l f k → (l.getD (posN l f k - 1) Fr.none_).rank ≤ f.rank
  | 0, h => by simp [posN] at h
  | k + 1, h => by
    unfold posN at h ⊢
    split at h
    · next hlt => rw [if_pos hlt]; exact posN_lt l f k h
    · next hge =>
      rw [if_neg hge]
      show (l.getD (k + 1 - 1) Fr.none_).rank ≤ f.rank
      rw [Nat.add_sub_cancel]
      omega
theorem srt_get {l : List Fr} (h : srt l) {i j : Nat} (hij : i ≤ j) (hj : j < l.length) : (l.getD i Fr.none_).rank ≤ (l.getD j Fr.none_).rank := by
  rcases Nat.lt_or_ge i j with hlt | hge
  · have := List.pairwise_iff_getElem.1 h i j (by omega) hj hlt
    rw [List.getD_eq_getElem?_getD, List.getD_eq_getElem?_getD, List.getElem?_eq_getElem (by omega), List.getElem?_eq_getElem hj]
    exact this
  · obtain rfl : i = j := by omega
    exact Int.le_refl _
theorem insB_srt {l : List Fr} (h : srt l) (f : Fr) : srt (insB l f) := by
  obtain ⟨p, hp⟩ : ∃ p, posN l f l.length = p := ⟨_, rfl⟩
  have hle : p ≤ l.length := by rw [← hp]; exact posN_le _ _ _
  have h1 : ∀ x ∈ l.take p, x.rank ≤ f.rank := by
    intro x hx
    obtain ⟨i, hi, rfl⟩ := List.mem_iff_getElem.1 hx
    rw [List.length_take] at hi
    have hlast := posN_lt l f l.length (by rw [hp]; omega)
    rw [hp] at hlast
    have hs := srt_get h (i := i) (j := p - 1) (by omega) (by omega)
    rw [List.getD_eq_getElem?_getD, List.getElem?_eq_getElem (by omega)] at hs
    rw [List.getElem_take]
    exact Int.le_trans hs hlast
  have h2 : ∀ x ∈ l.drop p, f.rank ≤ x.rank := by
    intro x hx
    obtain ⟨i, hi, rfl⟩ := List.mem_iff_getElem.1 hx
    rw [List.length_drop] at hi
    have := posN_ge l f l.length (p + i) (by rw [hp]; omega) (by omega)
    rw [List.getD_eq_getElem?_getD, List.getElem?_eq_getElem (by omega)] at this
    rw [List.getElem_drop]
    exact Int.le_of_lt this
  unfold insB srt
  rw [hp, List.pairwise_append, List.pairwise_cons]
  refine ⟨h.sublist (List.take_sublist _ _), ⟨h2, h.sublist (List.drop_sublist _ _)⟩, fun a ha b hb => ?_⟩
  rcases List.mem_cons.1 hb with rfl | hb
  · exact h1 a ha
  · exact Int.le_trans (h1 a ha) (h2 b hb)
theorem srt_head {x : Fr} {r : List Fr} (h : srt (x :: r)) : ∀ y ∈ r, x.rank ≤ y.rank := (List.pairwise_cons.1 h).1
theorem srt_tail {l : List Fr} (h : srt l) : srt l.tail := by
  cases l with
  | nil => exact h
  | cons x r => exact (List.pairwise_cons.1 h).2
theorem mem_ins (l : List Fr) (f : Fr) : f ∈ insB l f := by unfold insB; simp
theorem mem_ins' (l : List Fr) (f g : Fr) (h : g ∈ l) : g ∈ insB l f := by
  unfold insB
  rw [← List.take_append_drop (posN l f l.length) l] at h
  rcases List.mem_append.1 h with h | h
  · exact List.mem_append_left _ h
  · exact List.mem_append_right _ (List.mem_cons_of_mem _ h)
/-- The first of those that wait, behind a Send. -/
theorem ins_head {l : List Fr} (h : srt l) (f : Fr) : ((insB l f).headD Fr.none_).rank ≤ f.rank ∧ (l ≠ [] → ((insB l f).headD Fr.none_).rank ≤ (l.headD Fr.none_).rank) := by
  have hs := insB_srt h f
  cases hi : insB l f with
  | nil => have := insB_len l f; rw [hi] at this; simp at this
  | cons x r =>
    rw [hi] at hs
    have key : ∀ y ∈ insB l f, x.rank ≤ y.rank := by
      rw [hi]
      intro y hy
      rcases List.mem_cons.1 hy with rfl | hy
      · exact Int.le_refl _
      · exact srt_head hs y hy
    refine ⟨key f (mem_ins l f), fun hn => ?_⟩
    cases l with
    | nil => exact absurd rfl hn
    | cons y r' => exact key y (mem_ins' _ f y (by simp))
theorem tail_head {l : List Fr} (h : srt l) (hn : l.tail ≠ []) : (l.headD Fr.none_).rank ≤ (l.tail.headD Fr.none_).rank := by
  cases l with
  | nil => exact absurd rfl hn
  | cons x r =>
    cases r with
    | nil => exact absurd rfl hn
    | cons y r' => exact srt_head h y (by simp)
end Go.Proofs.Ytbmkfjgodgmjnaa
