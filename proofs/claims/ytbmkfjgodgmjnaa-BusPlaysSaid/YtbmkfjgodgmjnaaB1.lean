/- Boxes: Next, Done, Recv. -/
import Derived.Test.YtbmkfjgodgmjnaaB0
namespace Go.Proofs.Ytbmkfjgodgmjnaa
open Go.RowKit
set_option linter.unusedVariables false
set_option linter.unusedSimpArgs false
abbrev noFr : Value := Fr.none_.val
theorem next_nil (w : World) : Calls Try.prog 19 #[.pointer none] w fun e w' => e = .returned (.tuple #[noFr, .bool false]) ∧ Below w.heap.size w w' := by
  go_enter Try.func19, Try.ntmps19
  go_wp2_with (go_at_call 21; refine (wait_nil _).mono ?_; rintro e w' ⟨rfl, rfl⟩)
  go_returns
  exact ⟨rfl, by go_grown⟩
theorem next_no {Φ : Who} {B q : Nat} {w : World} {a : Bx} (h : BX Φ B w q a) (ht : a.tx = []) : Calls Try.prog 19 #[.pointer (some ⟨q, 0, none⟩)] w fun e w' => e = .returned (.tuple #[noFr, .bool false]) ∧ Below w.heap.size w w' := by
  have W := fun o => wait_any (h.below (bl1 w o))
  rw [ht] at W
  go_enter Try.func19, Try.ntmps19
  go_wp2_with (go_at_call 21; refine (W _).mono ?_; rintro e w' ⟨rfl, rfl⟩)
  go_returns
  exact ⟨rfl, by go_grown⟩
theorem next_yes {Φ : Who} {B q : Nat} {w : World} {a : Bx} (h : BX Φ B w q a) {f : Fr} {r : List Fr} (ht : a.tx = f :: r) : Calls Try.prog 19 #[.pointer (some ⟨q, 0, none⟩)] w fun e w' => e = .returned (.tuple #[f.val, .bool true]) ∧ Below w.heap.size w w' := by
  have W := fun o => wait_any (h.below (bl1 w o))
  have hok := h.2.1.t3
  obtain ⟨-, -, -, A0, c0, A1, c1, A2, c2, h4, -, h6, -⟩ := h
  rw [ht] at W h4 h6 hok
  obtain ⟨n, hn⟩ : ∃ n, (f :: r).length = n := ⟨_, rfl⟩
  have hn1 : 1 ≤ n := by rw [← hn]; simp
  rw [hn] at W h4 h6 hok
  have hn2 : (0 : Int) < n := by omega
  have hn3 : ((n : Int) == 0) = false := beq_eq_false_iff_ne.2 (by omega)
  have hn4 : 0 < n := hn1
  obtain ⟨g, o, rfl⟩ := h6.1.at_ hn1
  have e1 : w.cell? ⟨q, 1, none⟩ = some (.slice (some ⟨g, o, none⟩) n c1) := (h4.cell 1).trans rfl
  have hc : ∀ j v, f.cs[j]? = some v → w.cell? ⟨g, o + j, none⟩ = some v := fun j v hv => by
    have := fcells_get (f :: r) 0 f rfl j v hv
    rw [Nat.zero_mul, Nat.zero_add] at this
    exact h6.1.cells j v this
  have hg := (h6.1.lt rfl).2
  have hq := h4.lt
  have d0 := hc 0 _ rfl
  have d1 := hc 1 _ rfl
  have d2 := hc 2 _ rfl
  have d3 := hc 3 _ rfl
  have d4 := hc 4 _ rfl
  have d5 := hc 5 _ rfl
  have d6 := hc 6 _ rfl
  have d7 := hc 7 _ rfl
  have d8 := hc 8 _ rfl
  have d9 := hc 9 _ rfl
  have d10 := hc 10 _ rfl
  rw [Nat.add_zero] at d0
  clear hc h4 h6 hn ht
  go_enter Try.func19, Try.ntmps19
  go_wp2_with (go_at_call 21; refine (W _).mono ?_; rintro e w' ⟨rfl, rfl⟩)
  go_returns
  exact ⟨rfl, by go_grown⟩
theorem done_nil (w : World) : Calls Try.prog 22 #[.pointer none] w fun e w' => e = .returned (.tuple #[]) ∧ w = w' := by
  go_enter Try.func22, Try.ntmps22
  go_wp2_with (go_at_call 21; refine (wait_nil _).mono ?_; rintro e w' ⟨rfl, rfl⟩)
  go_end0
  exact ⟨rfl, rfl⟩
theorem done_any {Φ : Who} {B q : Nat} {w : World} {a : Bx} (h : BX Φ B w q a) (hN : Nu Φ w) : Calls Try.prog 22 #[.pointer (some ⟨q, 0, none⟩)] w (BxP Φ B w q { a with tx := a.tx.tail } (.tuple #[])) := by
  have W := wait_any h
  by_cases ht : a.tx = []
  · have ea : ({ a with tx := a.tx.tail } : Bx) = a := by
      obtain ⟨x1, x2, x3, x4⟩ := a
      simp only at ht
      subst ht
      rfl
    rw [ea]
    rw [ht] at W
    go_enter Try.func22, Try.ntmps22
    go_wp2_with (go_at_call 21; refine W.mono ?_; rintro e w' ⟨rfl, rfl⟩)
    go_end0
    exact ⟨rfl, Φ, h, Ext.refl hN⟩
  · obtain ⟨h1, h2, h3, A0, c0, A1, c1, A2, c2, h4, h5, h6, h7⟩ := h
    obtain ⟨n, hn⟩ : ∃ n, a.tx.length = n := ⟨_, rfl⟩
    have hn1 : 1 ≤ n := by rw [← hn]; exact List.length_pos_iff.2 ht
    have htl : a.tx.tail.length = n - 1 := by rw [List.length_tail, hn]
    rw [hn] at W h4 h6
    obtain ⟨g, o, rfl⟩ := h6.1.at_ hn1
    have hcut := h6.1.cut (k := 1) hn1 (by decide)
    rw [← fcells_drop, List.drop_one] at hcut
    have hA : ∀ g', blkOf (if c1 = 1 then some ⟨g, o, none⟩ else (some ⟨g, o, none⟩ : Option Addr).map (·.add (1 * 11))) = some g' → Φ g' = (q, 1) := fun g' hg' => by
      refine h6.2 g' ?_
      split at hg'
      · exact hg'
      · simpa [blkOf, Addr.add] using hg'
    have e1 : w.cell? ⟨q, 1, none⟩ = some (.slice (some ⟨g, o, none⟩) n c1) := (h4.cell 1).trans rfl
    have ef := h4.frozen
    have hnc := h6.1.2.1
    have hcm := h6.1.2.2.1
    unfold maxLen at hcm
    have hn2 : (0 : Int) < n := by omega
    have hn3 : (1 : Int) ≤ n := by omega
    have hn4 : (1 : Int) ≤ c1 := by omega
    obtain ⟨m, hm⟩ : ∃ m, n - 1 = m := ⟨_, rfl⟩
    obtain ⟨c', hc'⟩ : ∃ c', c1 - 1 = c' := ⟨_, rfl⟩
    have hne : ∀ j, 0 < j → ∀ (v : Value) {A : Option Addr} {n c : Nat} {xs : List Value}, Own w B 26 11 A n c xs → (∀ g, blkOf A = some g → Φ g = (q, j)) → OwC Φ (q, j) (w.setCell ⟨q, 1, none⟩ v) B 26 11 A n c xs := fun j hj v A n c xs ho hx =>
      ⟨ho.far (fun e => by have := hx _ e; rw [h3] at this; simp at this; omega) _, hx⟩
    have HB : Hid (∀ A', A' = (if c1 = 1 then some ⟨g, o, none⟩ else some ⟨g, o + 11, none⟩) → BX Φ B (w.setCell ⟨q, 1, none⟩ (.slice A' (n - 1) (c1 - 1))) q { a with tx := a.tx.tail } ∧ Ext B (Sq q) Φ Φ w (w.setCell ⟨q, 1, none⟩ (.slice A' (n - 1) (c1 - 1)))) := Lib.hid fun A' hA' => by
      have hx := (Ext.refl (B := B) (S := Sq q) hN).set_ (g := q) (o := 1) h1 (by rw [h3]; exact ⟨rfl, (by decide : 0 < 3)⟩) h4.lt (.slice A' (n - 1) (c1 - 1))
      have hAA : (if c1 = 1 then some ⟨g, o, none⟩ else (some ⟨g, o, none⟩ : Option Addr).map (·.add (1 * 11))) = A' := by
        rw [hA']
        split
        · rfl
        · simp [Addr.add]
      rw [hAA] at hcut hA
      have b1 := h4.set_ 1 (.slice A' (n - 1) (c1 - 1))
      refine ⟨⟨h1, ⟨h2.f8, by have := h2.t3; rw [hn] at this; show a.tx.tail.length ≤ 3; omega, h2.r4, h2.fw, fun f hf => h2.tw f (List.mem_of_mem_tail hf), h2.rw⟩, h3, A0, c0, A', c1 - 1, A2, c2, ?_, h5.ext hx (Sq.no9 q), ?_, hne 2 (by decide) _ h7.1 h7.2⟩, hx⟩
      · show Blk _ q 82 #[_, .slice A' a.tx.tail.length (c1 - 1), _, _]
        rw [htl]
        exact b1
      · show OwC Φ (q, 1) _ B 26 11 A' a.tx.tail.length (c1 - 1) _
        rw [htl]
        exact hne 1 (by decide) _ hcut hA
    clear hne hcut hA h4 h5 h6 h7 htl hn hm hc' ht
    by_cases hc1 : c1 = 1
    · subst hc1
      obtain rfl : n = 1 := by omega
      go_enter Try.func22, Try.ntmps22
      go_wp2_with (go_at_call 21; refine W.mono ?_; rintro e w' ⟨rfl, rfl⟩)
      go_end0
      obtain ⟨x1, x2⟩ := HB.out _ rfl
      exact ⟨rfl, Φ, x1, x2⟩
    · have hc2 : (1 : Int) < c1 := by omega
      have hc3 : ¬ ((1 : Nat) = c1) := by omega
      go_enter Try.func22, Try.ntmps22
      go_wp2_with (go_at_call 21; refine W.mono ?_; rintro e w' ⟨rfl, rfl⟩)
      go_end0
      obtain ⟨x1, x2⟩ := HB.out _ rfl
      rw [if_neg hc1] at x1 x2
      exact ⟨rfl, Φ, x1, x2⟩
end Go.Proofs.Ytbmkfjgodgmjnaa
