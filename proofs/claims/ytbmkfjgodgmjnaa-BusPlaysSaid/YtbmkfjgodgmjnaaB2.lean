/- Boxes: Recv. -/
import Derived.Test.YtbmkfjgodgmjnaaB1
namespace Go.Proofs.Ytbmkfjgodgmjnaa
open Go.RowKit
set_option linter.unusedVariables false
set_option linter.unusedSimpArgs false
theorem recv_nil (w : World) : Calls Try.prog 23 #[.pointer none] w fun e w' => e = .returned (.tuple #[noFr, .bool false]) ∧ Below w.heap.size w w' := by
  go_enter Try.func23, Try.ntmps23
  go_wp2_with fail
  go_returns
  exact ⟨rfl, by go_grown⟩
theorem recv_no {Φ : Who} {B q : Nat} {w : World} {a : Bx} (h : BX Φ B w q a) (ht : a.rx = []) : Calls Try.prog 23 #[.pointer (some ⟨q, 0, none⟩)] w fun e w' => e = .returned (.tuple #[noFr, .bool false]) ∧ Below w.heap.size w w' := by
  obtain ⟨-, -, -, A0, c0, A1, c1, A2, c2, h4, -⟩ := h
  rw [ht] at h4
  have hq := h4.lt
  have e1 : w.cell? ⟨q, 2, none⟩ = some (.slice A2 0 c2) := (h4.cell 2).trans rfl
  clear h4 ht
  go_enter Try.func23, Try.ntmps23
  go_wp2_with fail
  go_returns
  exact ⟨rfl, by go_grown⟩
set_option maxHeartbeats 1000000 in
theorem recv_yes {Φ : Who} {B q : Nat} {w : World} {a : Bx} (h : BX Φ B w q a) (hN : Nu Φ w) {f : Fr} {r : List Fr} (ht : a.rx = f :: r) : Calls Try.prog 23 #[.pointer (some ⟨q, 0, none⟩)] w (BxP Φ B w q { a with rx := r } (.tuple #[f.val, .bool true])) := by
  obtain ⟨h1, h2, h3, A0, c0, A1, c1, A2, c2, h4, h5, h6, h7⟩ := h
  have h2' := h2.r4
  have hrw := h2.rw
  rw [ht] at h4 h7 h2' hrw
  obtain ⟨n, hn⟩ : ∃ n, (f :: r).length = n := ⟨_, rfl⟩
  have hn1 : 1 ≤ n := by rw [← hn]; simp
  have htl : r.length = n - 1 := by rw [← hn]; simp
  rw [hn] at h4 h7 h2'
  have hn2 : (0 : Int) < n := by omega
  have hn3 : ((n : Int) == 0) = false := beq_eq_false_iff_ne.2 (by omega)
  have hn4 : 0 < n := hn1
  have hn5 : (1 : Int) ≤ n := by omega
  have hn6 : ¬ (n = 0) := by omega
  obtain ⟨g, o, rfl⟩ := h7.1.at_ hn1
  have e1 : w.cell? ⟨q, 2, none⟩ = some (.slice (some ⟨g, o, none⟩) n c2) := (h4.cell 2).trans rfl
  have hc : ∀ j v, f.cs[j]? = some v → w.cell? ⟨g, o + j, none⟩ = some v := fun j v hv => by
    have := fcells_get (f :: r) 0 f rfl j v hv
    rw [Nat.zero_mul, Nat.zero_add] at this
    exact h7.1.cells j v this
  have hg := (h7.1.lt rfl).2
  have hq := h4.lt
  have ef := h4.frozen
  have d0 := hc 0 _ rfl
  have d1 := hc 1 _ rfl
  have d2 := hc 2 _ rfl
  have d3 := hc 3 _ rfl
  have d4 := hc 4 _ rfl
  have d5 := hc 5 _ rfl
  have d6 := hc 6 _ rfl
  have d7 := hc 7 _ rfl
  have d8 := hc 8 _ rfl
  have d9 := hc 9 _ rfl
  have d10 := hc 10 _ rfl
  rw [Nat.add_zero] at d0
  have hnc := h7.1.2.1
  have hcm := h7.1.2.2.1
  unfold maxLen at hcm
  have hn7 : (1 : Int) ≤ c2 := by omega
  clear hc
  have hcut := h7.1.cut (k := 1) hn1 (by decide)
  rw [← fcells_drop, List.drop_succ_cons, List.drop_zero] at hcut
  have hA : ∀ g', blkOf (if c2 = 1 then some ⟨g, o, none⟩ else (some ⟨g, o, none⟩ : Option Addr).map (·.add (1 * 11))) = some g' → Φ g' = (q, 2) := fun g' hg' => by
    refine h7.2 g' ?_
    split at hg'
    · exact hg'
    · simpa [blkOf, Addr.add] using hg'
  have hne : ∀ j, 0 < j → ∀ (v : Value) {A : Option Addr} {n c : Nat} {xs : List Value}, Own w B 26 11 A n c xs → (∀ g, blkOf A = some g → Φ g = (q, j)) → OwC Φ (q, j) (w.setCell ⟨q, 2, none⟩ v) B 26 11 A n c xs := fun j hj v A n c xs ho hx =>
    ⟨ho.far (fun e => by have := hx _ e; rw [h3] at this; simp at this; omega) _, hx⟩
  have HB : Hid (∀ A', A' = (if c2 = 1 then some ⟨g, o, none⟩ else some ⟨g, o + 11, none⟩) → BX Φ B (w.setCell ⟨q, 2, none⟩ (.slice A' (n - 1) (c2 - 1))) q { a with rx := r } ∧ Ext B (Sq q) Φ Φ w (w.setCell ⟨q, 2, none⟩ (.slice A' (n - 1) (c2 - 1)))) := Lib.hid fun A' hA' => by
    have hx := (Ext.refl (B := B) (S := Sq q) hN).set_ (g := q) (o := 2) h1 (by rw [h3]; exact ⟨rfl, (by decide : 0 < 3)⟩) h4.lt (.slice A' (n - 1) (c2 - 1))
    have hAA : (if c2 = 1 then some ⟨g, o, none⟩ else (some ⟨g, o, none⟩ : Option Addr).map (·.add (1 * 11))) = A' := by
      rw [hA']
      split
      · rfl
      · simp [Addr.add]
    rw [hAA] at hcut hA
    have b1 := h4.set_ 2 (.slice A' (n - 1) (c2 - 1))
    refine ⟨⟨h1, ⟨h2.f8, h2.t3, by show r.length ≤ 4; omega, h2.fw, h2.tw, fun f' hf => hrw f' (List.mem_cons_of_mem _ hf)⟩, h3, A0, c0, A1, c1, A', c2 - 1, ?_, h5.ext hx (Sq.no9 q), hne 1 (by decide) _ h6.1 h6.2, ?_⟩, hx⟩
    · show Blk _ q 82 #[_, _, .slice A' r.length (c2 - 1), _]
      rw [htl]
      exact b1
    · show OwC Φ (q, 2) _ B 26 11 A' r.length (c2 - 1) _
      rw [htl]
      exact hne 2 (by decide) _ hcut hA
  clear hne hcut hA h4 h5 h6 h7 htl hn ht hrw
  by_cases hc1 : c2 = 1
  · subst hc1
    obtain rfl : n = 1 := by omega
    go_enter Try.func23, Try.ntmps23
    go_wp2_with fail
    go_returns
    obtain ⟨x1, x2⟩ := HB.out _ rfl
    exact ⟨rfl, Φ, (x1.below (bl1 _ _)).below (bl1 _ _), (x2.alloc _).alloc _⟩
  · have hc2 : (1 : Int) < c2 := by omega
    have hc3 : ¬ ((1 : Nat) = c2) := by omega
    go_enter Try.func23, Try.ntmps23
    go_wp2_with fail
    go_returns
    obtain ⟨x1, x2⟩ := HB.out _ rfl
    rw [if_neg hc1] at x1 x2
    exact ⟨rfl, Φ, (x1.below (bl1 _ _)).below (bl1 _ _), (x2.alloc _).alloc _⟩
end Go.Proofs.Ytbmkfjgodgmjnaa
