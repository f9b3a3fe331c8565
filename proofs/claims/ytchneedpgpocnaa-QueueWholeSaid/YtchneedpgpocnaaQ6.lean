/- The queue's calls over what it says, its rows young, its own block anywhere. -/
import Derived.Test.YtchneedpgpocnaaQ5
namespace Go.Proofs.Ytchneedpgpocnaa
open Go.RowKit
set_option linter.unusedVariables false
set_option linter.unusedSimpArgs false
def QJ (w : World) (base q : Nat) (a : Aq) : Prop := ∃ A c s, Qat w base q A c s ∧ s.most = a.most ∧ s.l.map It.key = a.l ∧ s.lost = a.lost
/-- What a call on such a queue may write. -/
def jF (W : World) (base q g : Nat) : Prop := g = q ∨ base ≤ g ∧ ∃ cs, Blk W g 31 cs
theorem QJ.below {w w' : World} {base q : Nat} {a : Aq} (h : QJ w base q a) (hb : Below w.heap.size w w') : QJ w' base q a := by
  obtain ⟨A, c, s, h1, h2⟩ := h
  exact ⟨A, c, s, h1.below hb, h2⟩
theorem QJ.chg {F : Nat → Prop} {w w' : World} {base q : Nat} {a : Aq} (h : QJ w base q a) (hc : Chg F w w') (hq : ¬ F q) (hF : ∀ g, F g → g < base) : QJ w' base q a := by
  obtain ⟨A, c, s, h1, h2⟩ := h
  refine ⟨A, c, s, ⟨h1.blk.chg hc hq, h1.own.chg hc (fun g hg hf => by have := (h1.own.lt hg).1; have := hF g hf; omega), fun t ht => ?_, h1.four⟩, h2⟩
  obtain ⟨x1, x2, x3⟩ := h1.its t ht
  exact ⟨x1, x2, x3.chg hc (fun g hg hf => by have := (x3.lt hg).1; have := hF g hf; omega)⟩
theorem Blk.jchg {w w' : World} {base q g : Nat} {t : TypeId} {cs : Array Value} (h : Blk w g t cs) (hc : Chg (jF w base q) w w') (hg : g ≠ q) (ht : t ≠ 31 ∨ g < base) : Blk w' g t cs := h.chg hc fun hf => by
  rcases hf with hf | ⟨hf, cs', hB⟩
  · exact hg hf
  · rcases ht with ht | ht
    · unfold Blk at h hB
      rw [h] at hB
      injection hB with hB
      injection hB with _ h2
      exact ht h2
    · omega
theorem QJ.lt {w : World} {base q : Nat} {a : Aq} (h : QJ w base q a) : q < w.heap.size := by
  obtain ⟨A, c, s, h1, _⟩ := h
  exact h1.blk.lt
theorem QJ.len {w : World} {base q : Nat} {a : Aq} (h : QJ w base q a) : Calls Try.prog 13 #[.pointer (some ⟨q, 0, none⟩)] w fun e w' => e = .returned (.int .i64 a.l.length) ∧ w = w' := by
  obtain ⟨A, c, s, h1, h3, h4, h5⟩ := h
  have := len_any h1
  rw [← h4, List.length_map]
  exact this
theorem QJ.put {W0 : World} {base q : Nat} {a : Aq} (h : QJ W0 base q a) (hb : base ≤ W0.heap.size) (j : Nat) (hj : j < 4) (A : Option Addr) (n c : Nat) (l : List It) (f : Bool) (a' : Aq) (hx : l.length = n) (hn : 0 < n) (hl : n ≤ 1000000) (hr : Rd W0 W0.heap.size A (cellsL l)) (hit : ItRd W0 l)
    (hc : ∀ t ∈ l, 0 ≤ t.code ∧ t.code < 64) (hal : a.l.length ≤ 1000000) (hin : ∀ g, (blkOf A = some g ∨ ∃ t ∈ l, t.b ≠ [] ∧ blkOf t.A = some g) → g < base ∧ g ≠ q) (hf : fitsQ a n = f) (ha : aput a j (l.map It.key) = a') :
    Calls Try.prog 12 #[.pointer (some ⟨q, 0, none⟩), .int .i64 j, .slice A n c] W0 fun e w' => e = .returned (.bool f) ∧ QJ w' base q a' ∧ Chg (jF W0 base q) W0 w' := by
  subst hf ha
  obtain ⟨AQ, cQ, s, h1, h3, h4, h5⟩ := h
  have hbad : bad l = false := bad_no l fun k t ht => (hc t (List.mem_of_getElem? ht)).2
  have hsl : s.l.length = a.l.length := by rw [← h4, List.length_map]
  have hlk : (l.map It.key).length = n := by rw [List.length_map, hx]
  cases hf : fitsQ a n
  · have hm : s.most < s.l.length + n := by
      simp only [fitsQ, decide_eq_false_iff_not] at hf
      rw [h3, hsl]; omega
    refine (put_full base q AQ cQ s j A n c l W0 h1 hj hx hn hl hr hbad (by omega) hm).mono ?_
    rintro e w' ⟨rfl, hQ, hch⟩
    refine ⟨rfl, ⟨AQ, cQ, _, hQ, ?_⟩, hch.mono (fun i _ e => .inl e)⟩
    unfold aput
    rw [hlk, hf]
    exact ⟨h3, h4, by rw [h5]; rfl⟩
  · have hm : s.l.length + n ≤ s.most := by
      simp only [fitsQ, decide_eq_true_eq] at hf
      rw [h3, hsl]; omega
    refine (put_ok base q AQ cQ s j A n c l W0 h1 hb hj hx hn hl hr hit hbad (fun t ht => (hc t ht).1) (fun g hg => ?_) (by omega) hm).mono ?_
    · rintro (e | e)
      · exact (hin g hg).2 e
      · have := h1.own.lt e
        have := (hin g hg).1
        omega
    rintro e w' ⟨A', c', l', rfl, hQ, hk, hch, -⟩
    refine ⟨rfl, ⟨A', c', _, hQ, ?_⟩, hch.mono (fun i hi e => ?_)⟩
    · unfold aput
      rw [hlk, hf]
      refine ⟨h3, ?_, by rw [h5]; rfl⟩
      show (s.l ++ l').map It.key = _
      rw [List.map_append, hk, h4, h5]
      rfl
    · rcases e with e | e
      · exact .inl e
      · refine .inr ⟨(h1.own.lt e).1, ?_⟩
        obtain ⟨a0, ha0, rfl⟩ := Option.map_eq_some_iff.1 e
        obtain ⟨g', off, cur, rfl, _, hh, _⟩ := h1.own.2.2.2.2 a0 ha0
        exact ⟨cur, hh⟩
theorem QJ.next {W : World} {base q : Nat} {most : Int} {x y : Int} {z : List Int} {r : List (Int × Int × List Int)} {lost : List Bool} (h : QJ W base q ⟨most, (x, y, z) :: r, lost⟩) (hal : r.length ≤ 999999) :
    Calls Try.prog 10 #[.pointer (some ⟨q, 0, none⟩)] W fun e w' => ∃ A n c, e = .returned (.tuple #[.agg #[.int .u8 x, .int .u8 y, .slice A n c], .bool true]) ∧ z.length = n ∧ Own w' base 5 1 A n c (u8s z) ∧ QJ w' base q ⟨most, r, lost⟩ ∧ Chg (fun g => g = q) W w' := by
  obtain ⟨AQ, cQ, s, h1, h3, h4, h5⟩ := h
  obtain ⟨t, l, hl⟩ : ∃ t l, s.l = t :: l := by
    cases hs : s.l with
    | nil => rw [hs] at h4; cases h4
    | cons t l => exact ⟨t, l, rfl⟩
  rw [hl] at h4
  simp only [List.map_cons, List.cons.injEq] at h4
  obtain ⟨hk, h4⟩ := h4
  simp only [It.key, Prod.mk.injEq] at hk
  obtain ⟨k1, k2, k3⟩ := hk
  have hll : s.l.length ≤ 1000000 := by
    rw [hl]
    have := congrArg List.length h4
    simp at this
    simp
    omega
  refine (next_yes W h1 t l hl hll).mono ?_
  rintro e w' ⟨A', c', rfl, hQ, hbk, hch⟩
  obtain ⟨i1, i2, i3⟩ := h1.its t (by rw [hl]; simp)
  have i3' : Own w' base 5 1 t.A t.n t.c (u8s t.b) := i3.chg hch (fun g hg he => i3.ne_blk hg h1.blk (by decide) he)
  refine ⟨t.A, t.n, t.c, ?_, by rw [← k3]; exact i1, by rw [← k3]; exact i3', ⟨A', c', _, hQ, h3, h4, h5⟩, hch⟩
  rw [← k1, ← k2]
theorem QJ.next0 {W : World} {base q : Nat} {most : Int} {lost : List Bool} (h : QJ W base q ⟨most, [], lost⟩) :
    Calls Try.prog 10 #[.pointer (some ⟨q, 0, none⟩)] W fun e w' => e = .returned (.tuple #[noRep, .bool false]) ∧ QJ w' base q ⟨most, [], lost⟩ ∧ Below W.heap.size W w' := by
  obtain ⟨AQ, cQ, s, h1, h3, h4, h5⟩ := h
  have hl : s.l = [] := List.map_eq_nil_iff.1 h4
  refine (next_no W h1 hl).mono ?_
  rintro e w' ⟨rfl, hb'⟩
  exact ⟨rfl, ⟨AQ, cQ, s, h1.below hb', h3, h4, h5⟩, hb'⟩
/-- Next, whatever waits: what a law needs that looks not at what is told. -/
theorem QJ.nextAny {W : World} {base q : Nat} {a : Aq} (h : QJ W base q a) (hal : a.l.length ≤ 1000000) :
    Calls Try.prog 10 #[.pointer (some ⟨q, 0, none⟩)] W fun e w' => ∃ v b, e = .returned (.tuple #[v, .bool b]) ∧ QJ w' base q ⟨a.most, a.l.tail, a.lost⟩ ∧ Chg (fun g => g = q) W w' := by
  obtain ⟨most, l, lost⟩ := a
  cases l with
  | nil =>
    refine h.next0.mono ?_
    rintro e w' ⟨rfl, hQ, hb⟩
    exact ⟨_, _, rfl, hQ, Chg.of_below hb _⟩
  | cons k r =>
    obtain ⟨x, y, z⟩ := k
    refine (h.next (by simp at hal; omega)).mono ?_
    rintro e w' ⟨A, n, c, rfl, -, -, hQ, hc⟩
    exact ⟨_, _, rfl, hQ, hc⟩
theorem QJ.clear {W : World} {base q : Nat} {a : Aq} (h : QJ W base q a) : Calls Try.prog 18 #[.pointer (some ⟨q, 0, none⟩)] W fun e w' => e = .returned (.tuple #[]) ∧ (∀ b, QJ w' b q ⟨a.most, [], [false, false, false, false]⟩) ∧ Chg (fun g => g = q) W w' := by
  obtain ⟨AQ, cQ, s, h1, h3, h4, h5⟩ := h
  refine (clear_any W h1).mono ?_
  rintro e w' ⟨rfl, hQ, hc⟩
  exact ⟨rfl, fun b => ⟨none, 0, _, hQ b, h3, rfl, rfl⟩, hc⟩
theorem new_QJ (n : Int) (w : World) (h1 : 1 ≤ n) (h2 : n ≤ 64) : Calls Try.prog 9 #[.int .i64 n] w fun e w' => ∃ q, e = .returned (.tuple #[.pointer (some ⟨q, 0, none⟩), .int .i64 0]) ∧ w.heap.size ≤ q ∧ (∀ base, QJ w' base q ⟨n, [], [false, false, false, false]⟩) ∧ Below w.heap.size w w' := by
  refine (new_yes n w h1 h2).mono ?_
  rintro e w' ⟨q, rfl, hq, hQ, hb'⟩
  exact ⟨q, rfl, hq, fun base => ⟨none, 0, _, hQ base, rfl, rfl, rfl⟩, hb'⟩
end Go.Proofs.Ytchneedpgpocnaa
