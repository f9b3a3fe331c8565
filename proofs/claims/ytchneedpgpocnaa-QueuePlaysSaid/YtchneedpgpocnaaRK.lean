/- The reference's queue over what it says; both queues side by side. -/
import Derived.Test.YtchneedpgpocnaaRQ
import Derived.Test.YtchneedpgpocnaaQM
namespace Go.Proofs.Ytchneedpgpocnaa
open Go.RowKit
set_option linter.unusedVariables false
set_option linter.unusedSimpArgs false
/-- The reference's queue whose row lies in the block r. -/
def RK (w : World) (q : Nat) (r : Option Nat) (a : Aq) : Prop := ∃ A c s, Rat w q A c s ∧ blkOf A = r ∧ s.most = a.most ∧ s.l.map It.key = a.l ∧ s.lost = a.lost
theorem RK.below {w w' : World} {q : Nat} {r : Option Nat} {a : Aq} (h : RK w q r a) (hb : Below w.heap.size w w') : RK w' q r a := by
  obtain ⟨A, c, s, h1, h2⟩ := h
  exact ⟨A, c, s, h1.below hb, h2⟩
theorem RK.chg {F : Nat → Prop} {w w' : World} {q : Nat} {r : Option Nat} {a : Aq} (h : RK w q r a) (hc : Chg F w w') (hq : ¬ F q) (hr : ∀ g, r = some g → ¬ F g) (hF : ∀ g, F g → g < w.heap.size → ∃ t cs, Blk w g t cs ∧ t ≠ 5) : RK w' q r a := by
  obtain ⟨A, c, s, h1, h2, h3⟩ := h
  exact ⟨A, c, s, h1.chg hc hq (fun g hg => hr g (by rw [← h2, hg])) hF, h2, h3⟩
theorem RK.lt {w : World} {q : Nat} {r : Option Nat} {a : Aq} (h : RK w q r a) : q < w.heap.size ∧ ∀ g, r = some g → g < w.heap.size := by
  obtain ⟨A, c, s, h1, h2, _⟩ := h
  exact ⟨h1.blk.lt, fun g hg => (h1.own.lt (by rw [h2, hg])).2⟩
theorem RK.ne {w : World} {q : Nat} {r : Option Nat} {a : Aq} (h : RK w q r a) : r ≠ some q := by
  obtain ⟨A, c, s, h1, rfl, _⟩ := h
  intro hg
  exact h1.own.ne_blk hg h1.blk (by decide) rfl
theorem RK.cs {w : World} {q : Nat} {r : Option Nat} {a : Aq} (h : RK w q r a) : ∃ cs, Blk w q 51 cs := by
  obtain ⟨A, c, s, h1, _⟩ := h
  exact ⟨_, h1.blk⟩
theorem QX.cs {w : World} {q : Nat} {r : Option Nat} {a : Aq} (h : QX w q r a) : ∃ cs, Blk w q 54 cs := by
  obtain ⟨A, c, s, h1, _⟩ := h
  exact ⟨_, h1.blk⟩
theorem RK.row {w : World} {q : Nat} {r : Option Nat} {a : Aq} (h : RK w q r a) : ∀ g, r = some g → ∃ cs, Blk w g 31 cs := by
  obtain ⟨A, c, s, h1, rfl, _⟩ := h
  intro g hg
  obtain ⟨a0, ha0, rfl⟩ := Option.map_eq_some_iff.1 hg
  obtain ⟨g', off, cur, rfl, _, hh, _⟩ := h1.own.2.2.2.2 a0 ha0
  exact ⟨cur, hh⟩
theorem QX.row {w : World} {q : Nat} {r : Option Nat} {a : Aq} (h : QX w q r a) : ∀ g, r = some g → ∃ cs, Blk w g 31 cs := by
  obtain ⟨A, c, s, h1, rfl, _⟩ := h
  intro g hg
  obtain ⟨a0, ha0, rfl⟩ := Option.map_eq_some_iff.1 hg
  obtain ⟨g', off, cur, rfl, _, hh, _⟩ := h1.own.2.2.2.2 a0 ha0
  exact ⟨cur, hh⟩
/-- The reference's slice, as the law reads it. -/
theorem RK.cell {w : World} {q : Nat} {r : Option Nat} {a : Aq} (h : RK w q r a) : ∃ A c, w.cell? ⟨q, 1, none⟩ = some (.slice A a.l.length c) := by
  obtain ⟨A, c, s, h1, h2, h3, h4, h5⟩ := h
  have := h1.c0.2
  rw [← h4, List.length_map]
  exact ⟨A, c, this⟩
theorem RK.put {W0 : World} {q : Nat} {r : Option Nat} {a : Aq} (h : RK W0 q r a) (j : Nat) (hj : j < 4) (A : Option Addr) (n c : Nat) (l : List It) (f : Bool) (a' : Aq) (hx : l.length = n) (hn : 0 < n) (hl : n ≤ 1000000) (hr : Rd W0 W0.heap.size A (cellsL l)) (hit : ItRd W0 l)
    (hc : ∀ t ∈ l, 0 ≤ t.code ∧ t.code < 64) (hal : a.l.length ≤ 1000000) (hin : ∀ g, (blkOf A = some g ∨ ∃ t ∈ l, t.b ≠ [] ∧ blkOf t.A = some g) → g ≠ q) (hf : fitsQ a n = f) (ha : aput a j (l.map It.key) = a') :
    Calls Try.prog 16 #[.pointer (some ⟨q, 0, none⟩), .int .i64 j, .slice A n c] W0 fun e w' => ∃ r', e = .returned (.bool f) ∧ RK w' q r' a' ∧ Chg (fun g => g = q) W0 w' ∧ rNew W0 r r' := by
  subst hf ha
  obtain ⟨AQ, cQ, s, h1, rfl, h3, h4, h5⟩ := h
  have hbad : bad l = false := bad_no l fun k t ht => (hc t (List.mem_of_getElem? ht)).2
  have hsl : s.l.length = a.l.length := by rw [← h4, List.length_map]
  have hlk : (l.map It.key).length = n := by rw [List.length_map, hx]
  cases hf : fitsQ a n
  · have hm : s.most < s.l.length + n := by
      simp only [fitsQ, decide_eq_false_iff_not] at hf
      rw [h3, hsl]; omega
    refine (rput_full q AQ cQ s j A n c l W0 h1 hj hx hn hl hr hbad (by omega) hm).mono ?_
    rintro e w' ⟨rfl, hQ, hch⟩
    refine ⟨_, rfl, ⟨AQ, cQ, _, hQ, rfl, ?_⟩, hch, .inl rfl⟩
    unfold aput
    rw [hlk, hf]
    exact ⟨h3, h4, by rw [h5]; rfl⟩
  · have hm : s.l.length + n ≤ s.most := by
      simp only [fitsQ, decide_eq_true_eq] at hf
      rw [h3, hsl]; omega
    refine (rput_ok q AQ cQ s j A n c l W0 h1 hj hx hn hl hr hit hbad (fun t ht => (hc t ht).1) (fun g hg => hin g hg) (by omega) hm).mono ?_
    rintro e w' ⟨A', c', l', rfl, hQ, hk, hch, hr'⟩
    refine ⟨_, rfl, ⟨A', c', _, hQ, rfl, ?_⟩, hch, ?_⟩
    · unfold aput
      rw [hlk, hf]
      refine ⟨h3, ?_, by rw [h5]; rfl⟩
      show (s.l ++ l').map It.key = _
      rw [List.map_append, hk, h4, h5]
      rfl
    · cases hb : blkOf A' with
      | none =>
        have hp : 0 < (s.l ++ l').length := by
          have := congrArg List.length hk
          rw [List.length_map, bumpK_len, List.length_map] at this
          rw [List.length_append]
          omega
        obtain ⟨g, o, e⟩ := hQ.own.at_ hp
        rw [e] at hb
        cases hb
      | some g => exact .inr ⟨g, rfl, hr' g hb⟩
theorem RK.next {W : World} {q : Nat} {rr : Option Nat} {most : Int} {x y : Int} {z : List Int} {r : List (Int × Int × List Int)} {lost : List Bool} (h : RK W q rr ⟨most, (x, y, z) :: r, lost⟩) (hal : r.length ≤ 999999) :
    Calls Try.prog 17 #[.pointer (some ⟨q, 0, none⟩)] W fun e w' => ∃ A n c r', e = .returned (.tuple #[.agg #[.int .u8 x, .int .u8 y, .slice A n c], .bool true]) ∧ z.length = n ∧ Own w' 0 5 1 A n c (u8s z) ∧ RK w' q r' ⟨most, r, lost⟩ ∧ Chg (fun g => g = q) W w' ∧ (∀ g, r' = some g → W.heap.size ≤ g) := by
  obtain ⟨AQ, cQ, s, h1, h2, h3, h4, h5⟩ := h
  obtain ⟨t, l, hl⟩ : ∃ t l, s.l = t :: l := by
    cases hs : s.l with
    | nil => rw [hs] at h4; cases h4
    | cons t l => exact ⟨t, l, rfl⟩
  rw [hl] at h4
  simp only [List.map_cons, List.cons.injEq] at h4
  obtain ⟨hk, h4⟩ := h4
  simp only [It.key, Prod.mk.injEq] at hk
  obtain ⟨k1, k2, k3⟩ := hk
  have hll : s.l.length ≤ 1000000 := by
    rw [hl]
    have := congrArg List.length h4
    simp at this
    simp
    omega
  refine (rnext_yes W h1 t l hl hll).mono ?_
  rintro e w' ⟨A', c', rfl, hQ, hbk, hch⟩
  obtain ⟨i1, i2, i3⟩ := h1.its t (by rw [hl]; simp)
  have i3' : Own w' 0 5 1 t.A t.n t.c (u8s t.b) := i3.chg hch (fun g hg he => i3.ne_blk hg h1.blk (by decide) he)
  refine ⟨t.A, t.n, t.c, blkOf A', ?_, by rw [← k3]; exact i1, by rw [← k3]; exact i3', ⟨A', c', _, hQ, rfl, h3, h4, h5⟩, hch, hbk⟩
  rw [← k1, ← k2]
theorem RK.next0 {W : World} {q : Nat} {r : Option Nat} {most : Int} {lost : List Bool} (h : RK W q r ⟨most, [], lost⟩) :
    Calls Try.prog 17 #[.pointer (some ⟨q, 0, none⟩)] W fun e w' => e = .returned (.tuple #[noRep, .bool false]) ∧ Below W.heap.size W w' := by
  obtain ⟨AQ, cQ, s, h1, h2, h3, h4, h5⟩ := h
  exact rnext_no W h1 (List.map_eq_nil_iff.1 h4)
theorem RK.clear {W : World} {q : Nat} {r : Option Nat} {a : Aq} (h : RK W q r a) : Calls Try.prog 19 #[.pointer (some ⟨q, 0, none⟩)] W fun e w' => e = .returned (.tuple #[]) ∧ RK w' q none ⟨a.most, [], [false, false, false, false]⟩ ∧ Chg (fun g => g = q) W w' := by
  obtain ⟨AQ, cQ, s, h1, h2, h3, h4, h5⟩ := h
  refine (rclear_any W h1).mono ?_
  rintro e w' ⟨rfl, hQ, hc⟩
  exact ⟨rfl, ⟨none, 0, _, hQ, rfl, h3, rfl, rfl⟩, hc⟩
theorem new_RK (n : Int) (w : World) (h1 : 1 ≤ n) (h2 : n ≤ 64) : Calls Try.prog 14 #[.int .i64 n] w fun e w' => ∃ q, e = .returned (.tuple #[.pointer (some ⟨q, 0, none⟩), .int .i64 0]) ∧ w.heap.size ≤ q ∧ RK w' q none ⟨n, [], [false, false, false, false]⟩ ∧ Below w.heap.size w w' := by
  refine (rnew_yes n w h1 h2).mono ?_
  rintro e w' ⟨rfl, hQ, hb'⟩
  exact ⟨_, rfl, Nat.le_refl _, ⟨none, 0, _, hQ, rfl, rfl, rfl, rfl⟩, hb'⟩
/-- An act's packets, as both Puts take them: either none of them is taken, whatever waits; or they may be. -/
theorem ap_cases {W0 : World} {bf B : Nat} {o : Ac} (ho : AcFew W0 bf B o) (hB : B ≤ W0.heap.size) (a : Aq) :
    ((o.list < 0 ∨ 4 ≤ o.list ∨ o.n = 0 ∨ bad o.its = true) ∧ apOk a o.list (o.its.map It.key) = false ∧ apQ a o.list (o.its.map It.key) = a) ∨
    (∃ j : Nat, j < 4 ∧ o.list = j ∧ 0 < o.n ∧ (∀ t ∈ o.its, 0 ≤ t.code ∧ t.code < 64) ∧ ItRd W0 o.its ∧ apOk a o.list (o.its.map It.key) = fitsQ a o.n ∧ apQ a o.list (o.its.map It.key) = aput a j (o.its.map It.key)) := by
  obtain ⟨h1, h2, h3, h4, h5, h6, h7, h8⟩ := ho
  cases hno : apNo o.list (o.its.map It.key)
  · right
    have e1 := hno
    simp only [apNo, Bool.or_eq_false_iff, decide_eq_false_iff_not] at hno
    obtain ⟨⟨⟨n1, n2⟩, n3⟩, n4⟩ := hno
    obtain ⟨j, hj⟩ : ∃ j : Nat, o.list = j := ⟨o.list.toNat, by omega⟩
    have hlk : (o.its.map It.key).length = o.n := by rw [List.length_map, h5]
    have hpos : 0 < o.n := by
      rw [← hlk]
      cases hk : o.its.map It.key with
      | nil => rw [hk] at n3; simp at n3
      | cons x r => simp
    rw [badK_eq] at n4
    refine ⟨j, by omega, hj, hpos, fun t ht => ⟨(h8 t ht).1.2.2.1, ?_⟩, fun t ht => ?_, ?_, ?_⟩
    · have := n4
      rw [bad, List.any_eq_false] at this
      have := this t ht
      simpa using this
    · obtain ⟨⟨p1, p2, p3, p4, p5, p6, p7, p8, p9⟩, p10⟩ := h8 t ht
      exact ⟨p5, by omega, p8, p9.more (by omega), p6, p7⟩
    · unfold apOk
      rw [e1, hlk]
      rfl
    · unfold apQ
      rw [e1, hj]
      simp
  · left
    refine ⟨?_, by unfold apOk; rw [hno]; rfl, by unfold apQ; rw [hno]; rfl⟩
    simp only [apNo, Bool.or_eq_true, decide_eq_true_eq, badK_eq] at hno
    rcases hno with ((hno | hno) | hno) | hno
    · exact .inl hno
    · exact .inr (.inl hno)
    · refine .inr (.inr (.inl ?_))
      rw [← h5]
      cases hk : o.its with
      | nil => rfl
      | cons x r => rw [hk] at hno; simp at hno
    · exact .inr (.inr (.inr hno))
/-- Both queues, and the acts, as the law holds them. -/
structure PLc (B bf b3 : Nat) (AF : Option Addr) (cF N : Nat) (outs : List Ac) (q q2 : Nat) : Prop where
  len : outs.length = N
  rows : ∀ o ∈ outs, ∀ g, blkOf o.A = some g → g < b3 ∧ g ≠ q ∧ g ≠ q2
  af : ∀ g, blkOf AF = some g → g < b3 ∧ g ≠ q ∧ g ≠ q2
  k1 : B ≤ q
  k2 : B ≤ q2
  k3 : q < b3
  k4 : q2 < b3
  k5 : q ≠ q2
  k6 : B ≤ b3
structure PLw (B bf b3 : Nat) (AF : Option Addr) (cF N : Nat) (outs : List Ac) (q q2 : Nat) (a a' : Aq) (r r2 : Option Nat) (w : World) : Prop where
  qx : QX w q r a
  rk : RK w q2 r2 a'
  own : Own w bf 48 3 AF N cF (cellsA outs)
  few : ∀ o ∈ outs, AcFew w bf B o
  hr : ∀ g, r = some g → b3 ≤ g
  hr2 : ∀ g, r2 = some g → b3 ≤ g
  ne : ∀ g, r = some g → r2 ≠ some g
  sz : b3 ≤ w.heap.size
def PL (B bf b3 : Nat) (AF : Option Addr) (cF N : Nat) (outs : List Ac) (q q2 : Nat) (a a' : Aq) (w : World) : Prop :=
  PLc B bf b3 AF cF N outs q q2 ∧ ∃ r r2, PLw B bf b3 AF cF N outs q q2 a a' r r2 w
/-- Blocks that no call on a queue writes. -/
def FrB (w w' : World) : Prop := ∀ g t cs, Blk w g t cs → t ≠ 54 → t ≠ 51 → t ≠ 31 → Blk w' g t cs
def FrN (w w' : World) : Prop := ∀ g t cs, Blk w g t cs → t ≠ 54 → t ≠ 51 → Blk w' g t cs
theorem FrB.of_below {w w' : World} (h : Below w.heap.size w w') : FrB w w' := fun g t cs hB _ _ _ => hB.below h
theorem FrN.of_below {w w' : World} (h : Below w.heap.size w w') : FrN w w' := fun g t cs hB _ _ => hB.below h
theorem blk_ty {w : World} {g : Nat} {t t' : TypeId} {cs cs' : Array Value} (h : Blk w g t cs) (h' : Blk w g t' cs') : t = t' := by
  unfold Blk at h h'
  rw [h] at h'
  injection h' with h'
  injection h' with _ h'
section
variable {B bf b3 : Nat} {AF : Option Addr} {cF N : Nat} {outs : List Ac} {q q2 : Nat} {a a' : Aq} {r r2 : Option Nat} {w w' : World}
theorem PLw.below (h : PLw B bf b3 AF cF N outs q q2 a a' r r2 w) (hc : PLc B bf b3 AF cF N outs q q2) (hb : Below w.heap.size w w') : PLw B bf b3 AF cF N outs q q2 a a' r r2 w' :=
  ⟨h.qx.below hb, h.rk.below hb, h.own.below hb, fun o ho => (h.few o ho).below hb (by have := h.sz; have := hc.k6; omega), h.hr, h.hr2, h.ne, by have := h.sz; have := hb.size; omega⟩
theorem PL.below (h : PL B bf b3 AF cF N outs q q2 a a' w) (hb : Below w.heap.size w w') : PL B bf b3 AF cF N outs q q2 a a' w' := by
  obtain ⟨hc, r, r2, h⟩ := h
  exact ⟨hc, r, r2, h.below hc hb⟩
theorem PL.put (h : PL B bf b3 AF cF N outs q q2 a a' w) {o : Ac} (ho : o ∈ outs) (hal : a.l.length ≤ 1000000) :
    Calls Try.prog 12 #[.pointer (some ⟨q, 0, none⟩), .int .i64 o.list, .slice o.A o.n o.c] w fun e w' => e = .returned (.bool (apOk a o.list (o.its.map It.key))) ∧ PL B bf b3 AF cF N outs q q2 (apQ a o.list (o.its.map It.key)) a' w' ∧ FrB w w' ∧ Below B w w' := by
  obtain ⟨hc, r, r2, h⟩ := h
  have hsz := h.sz
  have hb3 := hc.k6
  have hB : B ≤ w.heap.size := by omega
  have hf := h.few o ho
  rcases ap_cases hf hB a with ⟨hcs, e1, e2⟩ | ⟨j, hj, hjl, hpos, hcode, hit, e1, e2⟩
  · rw [e1, e2]
    refine (put_no ⟨q, 0, none⟩ o.list o.A o.n o.c o.its w hf.2.2.2.2.1 (by unfold maxLen; have := hf.2.2.2.2.2.1; omega) hf.2.2.2.2.2.2.1.rd hcs).mono ?_
    rintro e w' ⟨rfl, hb'⟩
    exact ⟨rfl, ⟨hc, r, r2, h.below hc hb'⟩, FrB.of_below hb', hb'.mono hB⟩
  · rw [e1, e2, hjl]
    have hrow := hc.rows o ho
    have hfr : ∀ g, xF q r g → g = q ∨ b3 ≤ g := fun g hg => by
      rcases hg with hg | hg
      · exact .inl hg
      · exact .inr (h.hr g hg)
    refine (h.qx.put j hj o.A o.n o.c o.its _ _ hf.2.2.2.2.1 hpos (by have := hf.2.2.2.2.2.1; omega) hf.2.2.2.2.2.2.1.rd hit hcode hal (fun g hg hx => ?_) rfl rfl).mono ?_
    · rcases hg with hg | ⟨t, ht, hne, hg⟩
      · have := hrow g hg
        rcases hfr g hx with hx | hx <;> omega
      · obtain ⟨⟨p1, p2, p3, p4, p5, p6, p7, p8, p9⟩, p10⟩ := hf.2.2.2.2.2.2.2 t ht
        obtain ⟨b, o', e, hlt, -⟩ := p9 (by intro h; apply hne; simpa using h)
        rw [e] at hg
        simp [blkOf] at hg
        have := hc.k1
        rcases hfr g hx with hx | hx <;> omega
    · rintro e w' ⟨r', rfl, hQ, hch, hrn⟩
      have hz := hch.size
      have hq1 := hc.k1
      have hq3 := hc.k3
      have hq5 := hc.k5
      obtain ⟨cq, hcq⟩ := h.qx.cs
      have hlt2 := h.rk.lt
      refine ⟨rfl, ⟨hc, r', r2, hQ, ?_, ?_, ?_, ?_, h.hr2, ?_, by omega⟩, ?_, hch.below (fun i _ hi => by rcases hfr i hi with hx | hx <;> omega) hB⟩
      · refine h.rk.chg hch (fun hx => ?_) (fun g hg hx => ?_) (fun g hg _ => h.qx.no5 g hg)
        · have := hc.k4
          rcases hfr _ hx with hx | hx <;> omega
        · rcases hx with hx | hx
          · subst hx
            obtain ⟨cs, hcs⟩ := h.rk.row g hg
            have := blk_ty hcs hcq
            cases this
          · exact h.ne g hx hg
      · exact h.own.chg hch (fun g hg hx => by have := hc.af g hg; rcases hfr g hx with hx | hx <;> omega)
      · exact fun o' ho' => (h.few o' ho').chg hch (fun g hg hx => by have := hc.rows o' ho' g hg; rcases hfr g hx with hx | hx <;> omega) hB (fun g hg hx => by rcases hfr g hx with hx | hx <;> omega)
      · intro g hg
        rcases hrn with hrn | ⟨g', hg', hlt'⟩
        · exact h.hr g (by rw [← hrn]; exact hg)
        · rw [hg'] at hg
          injection hg with hg
          omega
      · intro g hg
        rcases hrn with hrn | ⟨g', hg', hlt'⟩
        · exact h.ne g (by rw [← hrn]; exact hg)
        · rw [hg'] at hg
          injection hg with hg
          intro h2
          have := hlt2.2 g h2
          omega
      · intro g t cs hBk n1 n2 n3
        refine hBk.chg hch (fun hx => ?_)
        rcases hx with hx | hx
        · subst hx
          exact n1 (blk_ty hBk hcq)
        · obtain ⟨cs', hcs'⟩ := h.qx.row g hx
          exact n3 (blk_ty hBk hcs')
theorem PL.rput (h : PL B bf b3 AF cF N outs q q2 a a' w) {o : Ac} (ho : o ∈ outs) (hal : a'.l.length ≤ 1000000) :
    Calls Try.prog 16 #[.pointer (some ⟨q2, 0, none⟩), .int .i64 o.list, .slice o.A o.n o.c] w fun e w' => e = .returned (.bool (apOk a' o.list (o.its.map It.key))) ∧ PL B bf b3 AF cF N outs q q2 a (apQ a' o.list (o.its.map It.key)) w' ∧ FrB w w' ∧ Below B w w' := by
  obtain ⟨hc, r, r2, h⟩ := h
  have hsz := h.sz
  have hb3 := hc.k6
  have hB : B ≤ w.heap.size := by omega
  have hf := h.few o ho
  rcases ap_cases hf hB a' with ⟨hcs, e1, e2⟩ | ⟨j, hj, hjl, hpos, hcode, hit, e1, e2⟩
  · rw [e1, e2]
    refine (rput_no ⟨q2, 0, none⟩ o.list o.A o.n o.c o.its w hf.2.2.2.2.1 (by unfold maxLen; have := hf.2.2.2.2.2.1; omega) hf.2.2.2.2.2.2.1.rd hcs).mono ?_
    rintro e w' ⟨rfl, hb'⟩
    exact ⟨rfl, ⟨hc, r, r2, h.below hc hb'⟩, FrB.of_below hb', hb'.mono hB⟩
  · rw [e1, e2, hjl]
    have hrow := hc.rows o ho
    refine (h.rk.put j hj o.A o.n o.c o.its _ _ hf.2.2.2.2.1 hpos (by have := hf.2.2.2.2.2.1; omega) hf.2.2.2.2.2.2.1.rd hit hcode hal (fun g hg hx => ?_) rfl rfl).mono ?_
    · rcases hg with hg | ⟨t, ht, hne, hg⟩
      · have := hrow g hg
        omega
      · obtain ⟨⟨p1, p2, p3, p4, p5, p6, p7, p8, p9⟩, p10⟩ := hf.2.2.2.2.2.2.2 t ht
        obtain ⟨b, o', e, hlt, -⟩ := p9 (by intro h; apply hne; simpa using h)
        rw [e] at hg
        simp [blkOf] at hg
        have := hc.k2
        omega
    · rintro e w' ⟨r', rfl, hQ, hch, hrn⟩
      have hz := hch.size
      have hq2 := hc.k2
      have hq4 := hc.k4
      have hq5 := hc.k5
      obtain ⟨cq, hcq⟩ := h.rk.cs
      have hlt1 := h.qx.lt
      refine ⟨rfl, ⟨hc, r, r', ?_, hQ, ?_, ?_, h.hr, ?_, ?_, by omega⟩, ?_, hch.below (fun i _ hi => by omega) hB⟩
      · refine h.qx.chg hch (fun hx => hq5 hx) (fun g hg hx => ?_) (fun g hg _ => by subst hg; exact ⟨51, cq, hcq, by decide⟩)
        obtain ⟨cs, hcs⟩ := h.qx.row g hg
        subst hx
        have := blk_ty hcs hcq
        cases this
      · exact h.own.chg hch (fun g hg hx => (hc.af g hg).2.2 hx)
      · exact fun o' ho' => (h.few o' ho').chg hch (fun g hg hx => (hc.rows o' ho' g hg).2.2 hx) hB (fun g hg hx => by omega)
      · intro g hg
        rcases hrn with hrn | ⟨g', hg', hlt'⟩
        · exact h.hr2 g (by rw [← hrn]; exact hg)
        · rw [hg'] at hg
          injection hg with hg
          omega
      · intro g hg h2
        rcases hrn with hrn | ⟨g', hg', hlt'⟩
        · exact h.ne g hg (by rw [← hrn]; exact h2)
        · rw [hg'] at h2
          injection h2 with h2
          have := hlt1.2 g hg
          omega
      · intro g t cs hBk n1 n2 n3
        refine hBk.chg hch (fun hx => ?_)
        subst hx
        exact n2 (blk_ty hBk hcq)
/-- What a call that turns the queue's own block alone leaves. -/
theorem PLw.own_q {rq : Option Nat} {aq : Aq} (h : PLw B bf b3 AF cF N outs q q2 a a' r r2 w) (hc : PLc B bf b3 AF cF N outs q q2) (hch : Chg (fun g => g = q) w w') (hQ : QX w' q rq aq) (hrq : rq = none ∨ rq = r) : PL B bf b3 AF cF N outs q q2 aq a' w' ∧ FrN w w' ∧ Below B w w' := by
  have hz := hch.size
  have hsz := h.sz
  have hb3 := hc.k6
  have hB : B ≤ w.heap.size := by omega
  have hq1 := hc.k1
  obtain ⟨cq, hcq⟩ := h.qx.cs
  refine ⟨⟨hc, rq, r2, hQ, ?_, ?_, ?_, ?_, h.hr2, ?_, by omega⟩, ?_, hch.below (fun i _ hi => by omega) hB⟩
  · refine h.rk.chg hch (fun hx => hc.k5 hx.symm) (fun g hg hx => ?_) (fun g hg _ => by subst hg; exact ⟨54, cq, hcq, by decide⟩)
    obtain ⟨cs, hcs⟩ := h.rk.row g hg
    subst hx
    have := blk_ty hcs hcq
    cases this
  · exact h.own.chg hch (fun g hg hx => (hc.af g hg).2.1 hx)
  · exact fun o' ho' => (h.few o' ho').chg hch (fun g hg hx => (hc.rows o' ho' g hg).2.1 hx) hB (fun g hg hx => by omega)
  · intro g hg
    rcases hrq with hrq | hrq
    · rw [hrq] at hg; cases hg
    · exact h.hr g (by rw [← hrq]; exact hg)
  · intro g hg
    rcases hrq with hrq | hrq
    · rw [hrq] at hg; cases hg
    · exact h.ne g (by rw [← hrq]; exact hg)
  · intro g t cs hBk n1 n2
    refine hBk.chg hch (fun hx => ?_)
    subst hx
    exact n1 (blk_ty hBk hcq)
theorem PLw.own_q2 {rq : Option Nat} {aq : Aq} (h : PLw B bf b3 AF cF N outs q q2 a a' r r2 w) (hc : PLc B bf b3 AF cF N outs q q2) (hch : Chg (fun g => g = q2) w w') (hQ : RK w' q2 rq aq) (hrq : ∀ g, rq = some g → w.heap.size ≤ g) : PL B bf b3 AF cF N outs q q2 a aq w' ∧ FrN w w' ∧ Below B w w' := by
  have hz := hch.size
  have hsz := h.sz
  have hb3 := hc.k6
  have hB : B ≤ w.heap.size := by omega
  have hq1 := hc.k2
  have hq5 := hc.k5
  obtain ⟨cq, hcq⟩ := h.rk.cs
  have hlt := h.qx.lt
  refine ⟨⟨hc, r, rq, ?_, hQ, ?_, ?_, h.hr, ?_, ?_, by omega⟩, ?_, hch.below (fun i _ hi => by omega) hB⟩
  · refine h.qx.chg hch (fun hx => hc.k5 hx) (fun g hg hx => ?_) (fun g hg _ => by subst hg; exact ⟨51, cq, hcq, by decide⟩)
    obtain ⟨cs, hcs⟩ := h.qx.row g hg
    subst hx
    have := blk_ty hcs hcq
    cases this
  · exact h.own.chg hch (fun g hg hx => (hc.af g hg).2.2 hx)
  · exact fun o' ho' => (h.few o' ho').chg hch (fun g hg hx => (hc.rows o' ho' g hg).2.2 hx) hB (fun g hg hx => by omega)
  · intro g hg
    have := hrq g hg
    omega
  · intro g hg h2
    have := hrq g h2
    have := hlt.2 g hg
    omega
  · intro g t cs hBk n1 n2
    refine hBk.chg hch (fun hx => ?_)
    subst hx
    exact n2 (blk_ty hBk hcq)
theorem PL.next {most x y : Int} {z : List Int} {l : List (Int × Int × List Int)} {lost : List Bool} (h : PL B bf b3 AF cF N outs q q2 ⟨most, (x, y, z) :: l, lost⟩ a' w) (hal : l.length ≤ 999999) :
    Calls Try.prog 10 #[.pointer (some ⟨q, 0, none⟩)] w fun e w' => ∃ A n c, e = .returned (.tuple #[.agg #[.int .u8 x, .int .u8 y, .slice A n c], .bool true]) ∧ z.length = n ∧ Own w' 0 5 1 A n c (u8s z) ∧ PL B bf b3 AF cF N outs q q2 ⟨most, l, lost⟩ a' w' ∧ FrN w w' ∧ Below B w w' := by
  obtain ⟨hc, r, r2, h⟩ := h
  refine (h.qx.next hal).mono ?_
  rintro e w' ⟨A, n, c, rfl, hn, ho, hQ, hch⟩
  exact ⟨A, n, c, rfl, hn, ho, h.own_q hc hch hQ (.inr rfl)⟩
theorem PL.rnext {most x y : Int} {z : List Int} {l : List (Int × Int × List Int)} {lost : List Bool} (h : PL B bf b3 AF cF N outs q q2 a ⟨most, (x, y, z) :: l, lost⟩ w) (hal : l.length ≤ 999999) :
    Calls Try.prog 17 #[.pointer (some ⟨q2, 0, none⟩)] w fun e w' => ∃ A n c, e = .returned (.tuple #[.agg #[.int .u8 x, .int .u8 y, .slice A n c], .bool true]) ∧ z.length = n ∧ Own w' 0 5 1 A n c (u8s z) ∧ PL B bf b3 AF cF N outs q q2 a ⟨most, l, lost⟩ w' ∧ FrN w w' ∧ Chg (fun g => g = q2) w w' := by
  obtain ⟨hc, r, r2, h⟩ := h
  refine (h.rk.next hal).mono ?_
  rintro e w' ⟨A, n, c, r', rfl, hn, ho, hQ, hch, hr'⟩
  obtain ⟨x1, x2, x3⟩ := h.own_q2 hc hch hQ hr'
  exact ⟨A, n, c, rfl, hn, ho, x1, x2, hch⟩
theorem PL.next0 {most : Int} {lost : List Bool} (h : PL B bf b3 AF cF N outs q q2 ⟨most, [], lost⟩ a' w) :
    Calls Try.prog 10 #[.pointer (some ⟨q, 0, none⟩)] w fun e w' => e = .returned (.tuple #[noRep, .bool false]) ∧ Below w.heap.size w w' := by
  obtain ⟨hc, r, r2, h⟩ := h
  exact h.qx.next0
theorem PL.rnext0 {most : Int} {lost : List Bool} (h : PL B bf b3 AF cF N outs q q2 a ⟨most, [], lost⟩ w) :
    Calls Try.prog 17 #[.pointer (some ⟨q2, 0, none⟩)] w fun e w' => e = .returned (.tuple #[noRep, .bool false]) ∧ Below w.heap.size w w' := by
  obtain ⟨hc, r, r2, h⟩ := h
  exact h.rk.next0
theorem PL.clear (h : PL B bf b3 AF cF N outs q q2 a a' w) :
    Calls Try.prog 18 #[.pointer (some ⟨q, 0, none⟩)] w fun e w' => e = .returned (.tuple #[]) ∧ PL B bf b3 AF cF N outs q q2 ⟨a.most, [], [false, false, false, false]⟩ a' w' ∧ FrN w w' ∧ Below B w w' := by
  obtain ⟨hc, r, r2, h⟩ := h
  refine (h.qx.clear).mono ?_
  rintro e w' ⟨rfl, hQ, hch⟩
  exact ⟨rfl, h.own_q hc hch hQ (.inl rfl)⟩
theorem PL.rclear (h : PL B bf b3 AF cF N outs q q2 a a' w) :
    Calls Try.prog 19 #[.pointer (some ⟨q2, 0, none⟩)] w fun e w' => e = .returned (.tuple #[]) ∧ PL B bf b3 AF cF N outs q q2 a ⟨a'.most, [], [false, false, false, false]⟩ w' ∧ FrN w w' ∧ Below B w w' := by
  obtain ⟨hc, r, r2, h⟩ := h
  refine (h.rk.clear).mono ?_
  rintro e w' ⟨rfl, hQ, hch⟩
  exact ⟨rfl, h.own_q2 hc hch hQ (fun g hg => by cases hg)⟩
theorem PL.len (h : PL B bf b3 AF cF N outs q q2 a a' w) : Calls Try.prog 13 #[.pointer (some ⟨q, 0, none⟩)] w fun e w' => e = .returned (.int .i64 a.l.length) ∧ w = w' := by
  obtain ⟨hc, r, r2, h⟩ := h
  exact h.qx.len
theorem PL.cell (h : PL B bf b3 AF cF N outs q q2 a a' w) : ∃ A c, w.cell? ⟨q2, 1, none⟩ = some (.slice A a'.l.length c) := by
  obtain ⟨hc, r, r2, h⟩ := h
  exact h.rk.cell
end
end Go.Proofs.Ytchneedpgpocnaa
