/- Put of packets of a row. -/
import Derived.Test.YtchneedpgpocnaaQ4
namespace Go.Proofs.Ytchneedpgpocnaa
open Go.RowKit
set_option linter.unusedVariables false
set_option linter.unusedSimpArgs false
/-- Put of packets that lie in blocks younger than all of the queue's, or older. -/
theorem QK.putRow {Wb W0 : World} {base q : Nat} {a : Aq} (h : QK Wb base q a) (hbw : Below Wb.heap.size Wb W0) (hb : base ≤ Wb.heap.size) (j : Nat) (hj : j < 4) (A : Option Addr) (n c : Nat) (l : List It) (f : Bool) (a' : Aq) (hx : l.length = n) (hn : 0 < n) (hl : n ≤ 1000000) (hr : Rd W0 W0.heap.size A (cellsL l)) (hit : ItRd W0 l)
    (hc : ∀ t ∈ l, 0 ≤ t.code ∧ t.code < 64) (hal : a.l.length ≤ 1000000) (hin : ∀ g, (blkOf A = some g ∨ ∃ t ∈ l, t.b ≠ [] ∧ blkOf t.A = some g) → Wb.heap.size ≤ g ∨ g < base) (hf : fitsQ a n = f) (ha : aput a j (l.map It.key) = a') :
    Calls Try.prog 12 #[.pointer (some ⟨q, 0, none⟩), .int .i64 j, .slice A n c] W0 fun e w' => e = .returned (.bool f) ∧ QK w' base q a' ∧ Below base W0 w' := by
  subst hf ha
  obtain ⟨AQ, cQ, s, h1', h2, h3, h4, h5⟩ := h
  have h1 := h1'.below hbw
  have hbz : base ≤ W0.heap.size := Nat.le_trans hb hbw.size
  have hbad : bad l = false := bad_no l fun k t ht => (hc t (List.mem_of_getElem? ht)).2
  have hsl : s.l.length = a.l.length := by rw [← h4, List.length_map]
  have hlk : (l.map It.key).length = n := by rw [List.length_map, hx]
  cases hf : fitsQ a n
  · have hm : s.most < s.l.length + n := by
      simp only [fitsQ, decide_eq_false_iff_not] at hf
      rw [h3, hsl]; omega
    refine (put_full base q AQ cQ s j A n c l W0 h1 hj hx hn hl hr hbad (by omega) hm).mono ?_
    rintro e w' ⟨rfl, hQ, hch⟩
    refine ⟨rfl, ⟨AQ, cQ, _, hQ, h2, ?_⟩, hch.below (fun i _ e => by omega) hbz⟩
    unfold aput
    rw [hlk, hf]
    exact ⟨h3, h4, by rw [h5]; rfl⟩
  · have hm : s.l.length + n ≤ s.most := by
      simp only [fitsQ, decide_eq_true_eq] at hf
      rw [h3, hsl]; omega
    refine (put_ok base q AQ cQ s j A n c l W0 h1 hbz hj hx hn hl hr hit hbad (fun t ht => (hc t ht).1) (fun g hg => ?_) (by omega) hm).mono ?_
    · rintro (e | e)
      · have := h1'.blk.lt
        rcases hin g hg with h | h <;> omega
      · have := h1'.own.lt e
        rcases hin g hg with h | h <;> omega
    rintro e w' ⟨A', c', l', rfl, hQ, hk, hch, -⟩
    refine ⟨rfl, ⟨A', c', _, hQ, h2, ?_⟩, hch.below (fun i hi e => ?_) hbz⟩
    · unfold aput
      rw [hlk, hf]
      refine ⟨h3, ?_, by rw [h5]; rfl⟩
      show (s.l ++ l').map It.key = _
      rw [List.map_append, hk, h4, h5]
      rfl
    · rcases e with e | e
      · omega
      · exact (h1.own.lt e).1
end Go.Proofs.Ytchneedpgpocnaa
