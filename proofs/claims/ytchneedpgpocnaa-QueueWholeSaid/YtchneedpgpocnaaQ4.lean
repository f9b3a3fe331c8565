/- The queue's calls, over what it says alone; the examples. -/
import Derived.Test.YtchneedpgpocnaaQ3
namespace Go.Proofs.Ytchneedpgpocnaa
open Go.RowKit
set_option linter.unusedVariables false
set_option linter.unusedSimpArgs false
/-- What a queue says. -/
structure Aq where
  most : Int
  l : List (Int × Int × List Int)
  lost : List Bool
def QK (w : World) (base q : Nat) (a : Aq) : Prop := ∃ A c s, Qat w base q A c s ∧ base ≤ q ∧ s.most = a.most ∧ s.l.map It.key = a.l ∧ s.lost = a.lost
theorem QK.below {w w' : World} {base q : Nat} {a : Aq} (h : QK w base q a) (hb : Below w.heap.size w w') : QK w' base q a := by
  obtain ⟨A, c, s, h1, h2⟩ := h
  exact ⟨A, c, s, h1.below hb, h2⟩
theorem QK.lt {w : World} {base q : Nat} {a : Aq} (h : QK w base q a) : base ≤ q ∧ q < w.heap.size := by
  obtain ⟨A, c, s, h1, h2, _⟩ := h
  exact ⟨h2, h1.blk.lt⟩
def fitsQ (a : Aq) (n : Nat) : Bool := decide ((a.l.length : Int) + n ≤ a.most)
def aput (a : Aq) (j : Nat) (ks : List (Int × Int × List Int)) : Aq := if fitsQ a ks.length then ⟨a.most, a.l ++ bumpK (a.lost.getD j false) ks, a.lost.set j false⟩ else ⟨a.most, a.l, a.lost.set j true⟩
theorem QK.len {w : World} {base q : Nat} {a : Aq} (h : QK w base q a) : Calls Try.prog 13 #[.pointer (some ⟨q, 0, none⟩)] w fun e w' => e = .returned (.int .i64 a.l.length) ∧ w = w' := by
  obtain ⟨A, c, s, h1, h2, h3, h4, h5⟩ := h
  have := len_any h1
  rw [← h4, List.length_map]
  exact this
def noIt (code : Int) : It := ⟨0, code, none, 0, 0, []⟩
/-- Put of packets without bytes, laid just now. -/
theorem QK.putLit {W0 : World} {base q : Nat} {a : Aq} (h : QK W0 base q a) (hb : base ≤ W0.heap.size) (j : Nat) (hj : j < 4) (codes : List Int) (n : Nat) (hx : codes.length = n) (hn : 0 < n) (hl : n ≤ 1000000) (hc : ∀ x ∈ codes, 0 ≤ x ∧ x < 64) (hal : a.l.length ≤ 1000000) :
    Calls Try.prog 12 #[.pointer (some ⟨q, 0, none⟩), .int .i64 j, .slice (some ⟨W0.heap.size, 0, none⟩) n n] (W0.alloc (.cells (cellsL (codes.map noIt)).toArray 31)) fun e w' => e = .returned (.bool (fitsQ a n)) ∧ QK w' base q (aput a j (codes.map fun x => (0, x, []))) ∧ Below base W0 w' := by
  have hbl := (Below.refl W0.heap.size W0).alloc (Nat.le_refl _) (.cells (cellsL (codes.map noIt)).toArray 31)
  have hq : q < W0.heap.size := by obtain ⟨A, c, s, h1, _⟩ := h; exact h1.blk.lt
  have hown : ∀ A', (∃ n c xs, Own (W0.alloc (.cells (cellsL (codes.map noIt)).toArray 31)) base 31 3 A' n c xs) → True := fun _ _ => trivial
  obtain ⟨AQ, cQ, s, h1, h2, h3, h4, h5⟩ := h
  have hr := (Rd.new W0 (cellsL (codes.map noIt)) 31).more (B' := (W0.alloc (.cells (cellsL (codes.map noIt)).toArray 31)).heap.size) (by simp)
  have hit : ItRd (W0.alloc (.cells (cellsL (codes.map noIt)).toArray 31)) (codes.map noIt) := fun t ht => by
    obtain ⟨x, _, rfl⟩ := List.mem_map.1 ht
    exact ⟨rfl, Nat.zero_le _, fun _ => ⟨rfl, rfl⟩, Rd.nil, Nat.le_refl _, Nat.zero_le _⟩
  have hc' : ∀ t ∈ codes.map noIt, 0 ≤ t.code ∧ t.code < 64 := fun t ht => by
    obtain ⟨x, hx, rfl⟩ := List.mem_map.1 ht
    exact hc x hx
  have hlk : (codes.map noIt).map It.key = codes.map fun x => ((0 : Int), x, ([] : List Int)) := by rw [List.map_map]; rfl
  have hll : (codes.map noIt).length = n := by rw [List.length_map, hx]
  have hbad : bad (codes.map noIt) = false := bad_no _ fun k t ht => (hc' t (List.mem_of_getElem? ht)).2
  have hsl : s.l.length = a.l.length := by rw [← h4, List.length_map]
  have hbz : base ≤ (W0.alloc (.cells (cellsL (codes.map noIt)).toArray 31)).heap.size := by simp; omega
  have h1' := h1.below hbl
  cases hf : fitsQ a n
  · have hm : s.most < s.l.length + n := by
      simp only [fitsQ, decide_eq_false_iff_not] at hf
      rw [h3, hsl]; omega
    refine (put_full base q AQ cQ s j _ n n _ _ h1' hj hll hn hl hr hbad (by omega) hm).mono ?_
    rintro e w' ⟨rfl, hQ, hch⟩
    refine ⟨rfl, ⟨AQ, cQ, _, hQ, h2, ?_⟩, (hbl.mono hb).trans (hch.below (fun i _ e => by omega) hbz)⟩
    unfold aput
    rw [List.length_map, hx, hf]
    exact ⟨h3, h4, by rw [h5]; rfl⟩
  · have hm : s.l.length + n ≤ s.most := by
      simp only [fitsQ, decide_eq_true_eq] at hf
      rw [h3, hsl]; omega
    refine (put_ok base q AQ cQ s j _ n n _ _ h1' hbz hj hll hn hl hr hit hbad (fun t ht => (hc' t ht).1) (fun g hg => ?_) (by omega) hm).mono ?_
    · rcases hg with hg | ⟨t, ht, hg⟩
      · have hg : g = W0.heap.size := by simpa [blkOf] using hg.symm
        subst hg
        rintro (e | e)
        · omega
        · have := (h1.own.lt e).2
          omega
      · obtain ⟨x, _, rfl⟩ := List.mem_map.1 ht
        exact absurd rfl hg.1
    rintro e w' ⟨A', c', l', rfl, hQ, hk, hch, -⟩
    refine ⟨rfl, ⟨A', c', _, hQ, h2, ?_⟩, (hbl.mono hb).trans (hch.below (fun i hi e => ?_) hbz)⟩
    · unfold aput
      rw [List.length_map, hx, hf]
      refine ⟨h3, ?_, by rw [h5]; rfl⟩
      show (s.l ++ l').map It.key = _
      rw [List.map_append, hk, h4, h5, hlk]
      rfl
    · rcases e with e | e
      · omega
      · exact (h1'.own.lt e).1
/-- Next, of a queue in which something waits. -/
theorem QK.next {W : World} {base q : Nat} {most : Int} {x y : Int} {z : List Int} {r : List (Int × Int × List Int)} {lost : List Bool} (h : QK W base q ⟨most, (x, y, z) :: r, lost⟩) (hb : base ≤ W.heap.size) (hal : r.length ≤ 999999) :
    Calls Try.prog 10 #[.pointer (some ⟨q, 0, none⟩)] W fun e w' => ∃ A n c, e = .returned (.tuple #[.agg #[.int .u8 x, .int .u8 y, .slice A n c], .bool true]) ∧ z.length = n ∧ Own w' base 5 1 A n c (u8s z) ∧ QK w' base q ⟨most, r, lost⟩ ∧ Below base W w' ∧ Chg (fun g => g = q) W w' := by
  obtain ⟨AQ, cQ, s, h1, h2, h3, h4, h5⟩ := h
  obtain ⟨t, l, hl⟩ : ∃ t l, s.l = t :: l := by
    cases hs : s.l with
    | nil => rw [hs] at h4; cases h4
    | cons t l => exact ⟨t, l, rfl⟩
  rw [hl] at h4
  simp only [List.map_cons, List.cons.injEq] at h4
  obtain ⟨hk, h4⟩ := h4
  simp only [It.key, Prod.mk.injEq] at hk
  obtain ⟨k1, k2, k3⟩ := hk
  have hll : s.l.length ≤ 1000000 := by
    rw [hl]
    have := congrArg List.length h4
    simp at this
    simp
    omega
  refine (next_yes W h1 t l hl hll).mono ?_
  rintro e w' ⟨A', c', rfl, hQ, hbk, hch⟩
  obtain ⟨i1, i2, i3⟩ := h1.its t (by rw [hl]; simp)
  have i3' : Own w' base 5 1 t.A t.n t.c (u8s t.b) := i3.chg hch (fun g hg he => i3.ne_blk hg h1.blk (by decide) he)
  refine ⟨t.A, t.n, t.c, ?_, by rw [← k3]; exact i1, by rw [← k3]; exact i3', ⟨A', c', _, hQ, h2, h3, h4, h5⟩, hch.below (fun i _ e => by omega) hb, hch⟩
  rw [← k1, ← k2]
theorem QK.next0 {W : World} {base q : Nat} {most : Int} {lost : List Bool} (h : QK W base q ⟨most, [], lost⟩) (hb : base ≤ W.heap.size) :
    Calls Try.prog 10 #[.pointer (some ⟨q, 0, none⟩)] W fun e w' => e = .returned (.tuple #[noRep, .bool false]) ∧ QK w' base q ⟨most, [], lost⟩ ∧ Below base W w' ∧ Below W.heap.size W w' := by
  obtain ⟨AQ, cQ, s, h1, h2, h3, h4, h5⟩ := h
  have hl : s.l = [] := List.map_eq_nil_iff.1 h4
  refine (next_no W h1 hl).mono ?_
  rintro e w' ⟨rfl, hb'⟩
  exact ⟨rfl, ⟨AQ, cQ, s, h1.below hb', h2, h3, h4, h5⟩, hb'.mono hb, hb'⟩
theorem new_QK (n : Int) (w : World) (base : Nat) (hb : base ≤ w.heap.size) (h1 : 1 ≤ n) (h2 : n ≤ 64) : Calls Try.prog 9 #[.int .i64 n] w fun e w' => ∃ q, e = .returned (.tuple #[.pointer (some ⟨q, 0, none⟩), .int .i64 0]) ∧ QK w' base q ⟨n, [], [false, false, false, false]⟩ ∧ Below base w w' := by
  refine (new_yes n w h1 h2).mono ?_
  rintro e w' ⟨q, rfl, hq, hQ, hb'⟩
  exact ⟨q, rfl, ⟨none, 0, _, hQ base, by omega, rfl, rfl, rfl⟩, hb'.mono hb⟩
theorem QK.putLit' {W0 : World} {base q : Nat} {a : Aq} (h : QK W0 base q a) (hb : base ≤ W0.heap.size) (j : Nat) (hj : j < 4) (codes : List Int) (n : Nat) (f : Bool) (a' : Aq) (hx : codes.length = n) (hn : 0 < n) (hl : n ≤ 1000000) (hc : ∀ x ∈ codes, 0 ≤ x ∧ x < 64) (hal : a.l.length ≤ 1000000) (hf : fitsQ a n = f) (ha : aput a j (codes.map fun x => (0, x, [])) = a') :
    Calls Try.prog 12 #[.pointer (some ⟨q, 0, none⟩), .int .i64 j, .slice (some ⟨W0.heap.size, 0, none⟩) n n] (W0.alloc (.cells (cellsL (codes.map noIt)).toArray 31)) fun e w' => e = .returned (.bool f) ∧ QK w' base q a' ∧ Below base W0 w' := by
  subst hf ha
  exact h.putLit hb j hj codes n hx hn hl hc hal
set_option maxHeartbeats 1000000 in
theorem shown_any (w : World) : Calls Try.prog 8 #[] w fun e w' => e = .returned (.bool true) ∧ Below w.heap.size w w' := by
  have N := Lib.hid (new_QK 2 w w.heap.size (Nat.le_refl _) (by decide) (by decide))
  go_enter Try.func8, Try.ntmps8
  go_wp2_with fail
  refine N.out.mono ?_
  rintro e w1 ⟨q, rfl, Q1, b1⟩
  have z1 := b1.size
  go_wp2_with fail
  refine (Q1.putLit' z1 0 (by decide) [1, 2] 2 true ⟨2, [(0, 1, []), (0, 2, [])], [false, false, false, false]⟩ rfl (by decide) (by decide) (by decide) (by decide) rfl rfl).mono ?_
  rintro e w2 ⟨rfl, Q2, b2⟩
  have b2' := b1.trans b2
  have z2 := b2'.size
  go_wp2_with fail
  refine (Q2.putLit' z2 0 (by decide) [1] 1 false ⟨2, [(0, 1, []), (0, 2, [])], [true, false, false, false]⟩ rfl (by decide) (by decide) (by decide) (by decide) rfl rfl).mono ?_
  rintro e w3 ⟨rfl, Q3, b3⟩
  have b3' := b2'.trans b3
  have z3 := b3'.size
  go_wp2_with fail
  refine (Q3.next z3 (by decide)).mono ?_
  rintro e w4 ⟨A4, n4, c4, rfl, -, -, Q4, b4, -⟩
  have b4' := b3'.trans b4
  have z4 := b4'.size
  go_wp2_with fail
  refine (Q4.putLit' z4 0 (by decide) [1] 1 true ⟨2, [(0, 2, []), (0, 65, [])], [false, false, false, false]⟩ rfl (by decide) (by decide) (by decide) (by decide) rfl rfl).mono ?_
  rintro e w5 ⟨rfl, Q5, b5⟩
  have b5' := b4'.trans b5
  have z5 := b5'.size
  go_wp2_with fail
  refine (Q5.next z5 (by decide)).mono ?_
  rintro e w6 ⟨A6, n6, c6, rfl, -, -, Q6, b6, -⟩
  have b6' := b5'.trans b6
  have z6 := b6'.size
  go_wp2_with fail
  refine (Q6.next z6 (by decide)).mono ?_
  rintro e w7 ⟨A7, n7, c7, rfl, -, -, Q7, b7, -⟩
  have b7' := b6'.trans b7
  have z7 := b7'.size
  go_wp2_with fail
  go_ret
  exact ⟨rfl, b7'.alloc z7 _⟩
end Go.Proofs.Ytchneedpgpocnaa
