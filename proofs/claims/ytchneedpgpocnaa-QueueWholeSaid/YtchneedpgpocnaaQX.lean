/- The queue's calls over what it says, the block of its row named. -/
import Derived.Test.YtchneedpgpocnaaQF
namespace Go.Proofs.Ytchneedpgpocnaa
open Go.RowKit
set_option linter.unusedVariables false
set_option linter.unusedSimpArgs false
/-- A queue whose row lies in the block r. -/
def QX (w : World) (q : Nat) (r : Option Nat) (a : Aq) : Prop := ∃ A c s, Qat w 0 q A c s ∧ blkOf A = r ∧ s.most = a.most ∧ s.l.map It.key = a.l ∧ s.lost = a.lost
/-- What a call on it may write. -/
def xF (q : Nat) (r : Option Nat) (g : Nat) : Prop := g = q ∨ r = some g
/-- The row's block behind a call: as it was, or new. -/
def rNew (w : World) (r r' : Option Nat) : Prop := r' = r ∨ ∃ g, r' = some g ∧ w.heap.size ≤ g
theorem QX.below {w w' : World} {q : Nat} {r : Option Nat} {a : Aq} (h : QX w q r a) (hb : Below w.heap.size w w') : QX w' q r a := by
  obtain ⟨A, c, s, h1, h2⟩ := h
  exact ⟨A, c, s, h1.below hb, h2⟩
theorem QX.chg {F : Nat → Prop} {w w' : World} {q : Nat} {r : Option Nat} {a : Aq} (h : QX w q r a) (hc : Chg F w w') (hq : ¬ F q) (hr : ∀ g, r = some g → ¬ F g) (hF : ∀ g, F g → g < w.heap.size → ∃ t cs, Blk w g t cs ∧ t ≠ 5) : QX w' q r a := by
  obtain ⟨A, c, s, h1, h2, h3⟩ := h
  exact ⟨A, c, s, h1.chg hc hq (fun g hg => hr g (by rw [← h2, hg])) hF, h2, h3⟩
theorem QX.lt {w : World} {q : Nat} {r : Option Nat} {a : Aq} (h : QX w q r a) : q < w.heap.size ∧ ∀ g, r = some g → g < w.heap.size := by
  obtain ⟨A, c, s, h1, h2, _⟩ := h
  exact ⟨h1.blk.lt, fun g hg => (h1.own.lt (by rw [h2, hg])).2⟩
/-- What the row's block, and the queue's own, hold: no bytes. -/
theorem QX.no5 {w : World} {q : Nat} {r : Option Nat} {a : Aq} (h : QX w q r a) : ∀ g, xF q r g → ∃ t cs, Blk w g t cs ∧ t ≠ 5 := by
  obtain ⟨A, c, s, h1, rfl, _⟩ := h
  rintro g (rfl | hg)
  · exact ⟨54, _, h1.blk, by decide⟩
  · obtain ⟨a0, ha0, rfl⟩ := Option.map_eq_some_iff.1 hg
    obtain ⟨g', off, cur, rfl, _, hh, _⟩ := h1.own.2.2.2.2 a0 ha0
    exact ⟨31, cur, hh, by decide⟩
theorem QX.ne {w : World} {q : Nat} {r : Option Nat} {a : Aq} (h : QX w q r a) : r ≠ some q := by
  obtain ⟨A, c, s, h1, rfl, _⟩ := h
  intro hg
  exact h1.own.ne_blk hg h1.blk (by decide) rfl
theorem QX.len {w : World} {q : Nat} {r : Option Nat} {a : Aq} (h : QX w q r a) : Calls Try.prog 13 #[.pointer (some ⟨q, 0, none⟩)] w fun e w' => e = .returned (.int .i64 a.l.length) ∧ w = w' := by
  obtain ⟨A, c, s, h1, h2, h3, h4, h5⟩ := h
  have := len_any h1
  rw [← h4, List.length_map]
  exact this
theorem QX.put {W0 : World} {q : Nat} {r : Option Nat} {a : Aq} (h : QX W0 q r a) (j : Nat) (hj : j < 4) (A : Option Addr) (n c : Nat) (l : List It) (f : Bool) (a' : Aq) (hx : l.length = n) (hn : 0 < n) (hl : n ≤ 1000000) (hr : Rd W0 W0.heap.size A (cellsL l)) (hit : ItRd W0 l)
    (hc : ∀ t ∈ l, 0 ≤ t.code ∧ t.code < 64) (hal : a.l.length ≤ 1000000) (hin : ∀ g, (blkOf A = some g ∨ ∃ t ∈ l, t.b ≠ [] ∧ blkOf t.A = some g) → ¬ xF q r g) (hf : fitsQ a n = f) (ha : aput a j (l.map It.key) = a') :
    Calls Try.prog 12 #[.pointer (some ⟨q, 0, none⟩), .int .i64 j, .slice A n c] W0 fun e w' => ∃ r', e = .returned (.bool f) ∧ QX w' q r' a' ∧ Chg (xF q r) W0 w' ∧ rNew W0 r r' := by
  subst hf ha
  obtain ⟨AQ, cQ, s, h1, rfl, h3, h4, h5⟩ := h
  have hbad : bad l = false := bad_no l fun k t ht => (hc t (List.mem_of_getElem? ht)).2
  have hsl : s.l.length = a.l.length := by rw [← h4, List.length_map]
  have hlk : (l.map It.key).length = n := by rw [List.length_map, hx]
  cases hf : fitsQ a n
  · have hm : s.most < s.l.length + n := by
      simp only [fitsQ, decide_eq_false_iff_not] at hf
      rw [h3, hsl]; omega
    refine (put_full 0 q AQ cQ s j A n c l W0 h1 hj hx hn hl hr hbad (by omega) hm).mono ?_
    rintro e w' ⟨rfl, hQ, hch⟩
    refine ⟨_, rfl, ⟨AQ, cQ, _, hQ, rfl, ?_⟩, hch.mono (fun i _ e => .inl e), .inl rfl⟩
    unfold aput
    rw [hlk, hf]
    exact ⟨h3, h4, by rw [h5]; rfl⟩
  · have hm : s.l.length + n ≤ s.most := by
      simp only [fitsQ, decide_eq_true_eq] at hf
      rw [h3, hsl]; omega
    refine (put_ok 0 q AQ cQ s j A n c l W0 h1 (Nat.zero_le _) hj hx hn hl hr hit hbad (fun t ht => (hc t ht).1) (fun g hg => hin g hg) (by omega) hm).mono ?_
    rintro e w' ⟨A', c', l', rfl, hQ, hk, hch, hr'⟩
    refine ⟨_, rfl, ⟨A', c', _, hQ, rfl, ?_⟩, hch.mono (fun i _ e => e), hr'⟩
    unfold aput
    rw [hlk, hf]
    refine ⟨h3, ?_, by rw [h5]; rfl⟩
    show (s.l ++ l').map It.key = _
    rw [List.map_append, hk, h4, h5]
    rfl
theorem QX.next {W : World} {q : Nat} {rr : Option Nat} {most : Int} {x y : Int} {z : List Int} {r : List (Int × Int × List Int)} {lost : List Bool} (h : QX W q rr ⟨most, (x, y, z) :: r, lost⟩) (hal : r.length ≤ 999999) :
    Calls Try.prog 10 #[.pointer (some ⟨q, 0, none⟩)] W fun e w' => ∃ A n c, e = .returned (.tuple #[.agg #[.int .u8 x, .int .u8 y, .slice A n c], .bool true]) ∧ z.length = n ∧ Own w' 0 5 1 A n c (u8s z) ∧ QX w' q rr ⟨most, r, lost⟩ ∧ Chg (fun g => g = q) W w' := by
  obtain ⟨AQ, cQ, s, h1, h2, h3, h4, h5⟩ := h
  obtain ⟨t, l, hl⟩ : ∃ t l, s.l = t :: l := by
    cases hs : s.l with
    | nil => rw [hs] at h4; cases h4
    | cons t l => exact ⟨t, l, rfl⟩
  rw [hl] at h4
  simp only [List.map_cons, List.cons.injEq] at h4
  obtain ⟨hk, h4⟩ := h4
  simp only [It.key, Prod.mk.injEq] at hk
  obtain ⟨k1, k2, k3⟩ := hk
  have hll : s.l.length ≤ 1000000 := by
    rw [hl]
    have := congrArg List.length h4
    simp at this
    simp
    omega
  refine (next_yes W h1 t l hl hll).mono ?_
  rintro e w' ⟨A', c', rfl, hQ, hbk, hch⟩
  obtain ⟨i1, i2, i3⟩ := h1.its t (by rw [hl]; simp)
  have i3' : Own w' 0 5 1 t.A t.n t.c (u8s t.b) := i3.chg hch (fun g hg he => i3.ne_blk hg h1.blk (by decide) he)
  refine ⟨t.A, t.n, t.c, ?_, by rw [← k3]; exact i1, by rw [← k3]; exact i3', ⟨A', c', _, hQ, by rw [hbk, h2], h3, h4, h5⟩, hch⟩
  rw [← k1, ← k2]
theorem QX.next0 {W : World} {q : Nat} {r : Option Nat} {most : Int} {lost : List Bool} (h : QX W q r ⟨most, [], lost⟩) :
    Calls Try.prog 10 #[.pointer (some ⟨q, 0, none⟩)] W fun e w' => e = .returned (.tuple #[noRep, .bool false]) ∧ Below W.heap.size W w' := by
  obtain ⟨AQ, cQ, s, h1, h2, h3, h4, h5⟩ := h
  exact next_no W h1 (List.map_eq_nil_iff.1 h4)
theorem QX.clear {W : World} {q : Nat} {r : Option Nat} {a : Aq} (h : QX W q r a) : Calls Try.prog 18 #[.pointer (some ⟨q, 0, none⟩)] W fun e w' => e = .returned (.tuple #[]) ∧ QX w' q none ⟨a.most, [], [false, false, false, false]⟩ ∧ Chg (fun g => g = q) W w' := by
  obtain ⟨AQ, cQ, s, h1, h2, h3, h4, h5⟩ := h
  refine (clear_any W h1).mono ?_
  rintro e w' ⟨rfl, hQ, hc⟩
  exact ⟨rfl, ⟨none, 0, _, hQ 0, rfl, h3, rfl, rfl⟩, hc⟩
theorem new_QX (n : Int) (w : World) (h1 : 1 ≤ n) (h2 : n ≤ 64) : Calls Try.prog 9 #[.int .i64 n] w fun e w' => ∃ q, e = .returned (.tuple #[.pointer (some ⟨q, 0, none⟩), .int .i64 0]) ∧ w.heap.size ≤ q ∧ QX w' q none ⟨n, [], [false, false, false, false]⟩ ∧ Below w.heap.size w w' := by
  refine (new_yes n w h1 h2).mono ?_
  rintro e w' ⟨q, rfl, hq, hQ, hb'⟩
  exact ⟨q, rfl, hq, ⟨none, 0, _, hQ 0, rfl, rfl, rfl, rfl⟩, hb'⟩
end Go.Proofs.Ytchneedpgpocnaa
