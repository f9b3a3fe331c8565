/- The reference's Unlock. -/
import Derived.Test.YtgkmeekefinmkaaR2
namespace Go.Proofs.Ytgkmeekefinmkaa
open Go.RowKit
set_option linter.unusedVariables false
set_option linter.unusedSimpArgs false
def RUnP (w : World) (B q : Nat) (x : LX × Int) (e : Ending) (w' : World) : Prop := e = .returned (.int .i64 x.2) ∧ RAt w' B q x.1 ∧ ChT B [41] w w'
set_option maxRecDepth 100000 in
set_option maxHeartbeats 4000000 in
theorem runlock_no {w : World} {B q : Nat} {a : LX} (h : RAt w B q a) (left : Int) (A : Option Addr) (n c : Nat) (h0 : -9223372036854775808 ≤ left) (h1 : left ≤ 9223372036854775807) (hn : n ≤ maxLen)
    (hno : ∀ d, a.out = some d → ¬ (d.told = d.s.length ∧ left = ((d.s.length - d.came.length : Nat) : Int) ∧ (n : Int) = min left 6)) :
    Calls Try.prog 17 #[.pointer (some ⟨q, 0, none⟩), .int .i64 left, .slice A n c] w (RUnP w B q ({ a with out := none }, 90)) := by
  unfold maxLen at hn
  have F := Lib.hid fun W hW => rforget_any (h.below (w' := W) hW)
  cases ho : a.out with
  | none =>
    have h3 := h.2.2
    rw [ho] at h3
    have hB : Blk w q 41 #[.int .u8 a.all, .int .u8 a.shut, .slice none 0 0, .int .u8 0, .int .i64 0, .slice none 0 0] := h3
    have c2 : w.cell? ⟨q, 2, none⟩ = some (.slice none 0 0) := (hB.cell 2).trans rfl
    have he := fun w => Lib.run_eql_slice_nil (P := Try.prog) w 22 5 none 0 0 0 0 Try.underlying22
    clear ho h3 hB hno
    go_enter Try.func17, Try.ntmps17
    go_wp2_with fail
    go_quiet (fail)
    go_wp2_with fail
    refine (F.out _ (bel_drewN (Below.refl _ _) _)).mono ?_
    rintro e w1 ⟨rfl, hL, hc⟩
    go_wp2_with fail
    go_ret
    exact ⟨rfl, hL, (ChT.of_below (bel_drewN (Below.refl _ _) _) _ _).trans hc⟩
  | some d =>
    have hok := h.2.1.out d ho
    have hnd := hno d ho
    have h3 := h.2.2
    rw [ho] at h3
    obtain ⟨A1, c1, A3, c3, hB, ⟨⟨a1, rfl⟩, g3, g4⟩, g5⟩ := h3
    have h20 := hok.s2
    have htl := hok.t
    have hcl := hok.c
    obtain ⟨N, hN⟩ : ∃ N, d.s.length = N := ⟨_, rfl⟩
    obtain ⟨t, ht⟩ : ∃ t, d.told = t := ⟨_, rfl⟩
    obtain ⟨M, hM⟩ : ∃ M, d.came.length = M := ⟨_, rfl⟩
    rw [hN] at hB h20 htl hcl hnd
    rw [ht] at hB htl hnd
    rw [hM] at hB hcl hnd
    have c2 : w.cell? ⟨q, 2, none⟩ = some (.slice (some a1) N c1) := (hB.cell 2).trans rfl
    have c4 : w.cell? ⟨q, 4, none⟩ = some (.int .i64 t) := (hB.cell 4).trans rfl
    have c5 : w.cell? ⟨q, 5, none⟩ = some (.slice A3 M c3) := (hB.cell 5).trans rfl
    have he := fun w => Lib.run_eql_slice_nil (P := Try.prog) w 22 5 (some a1) N c1 0 0 Try.underlying22
    obtain ⟨K, hK⟩ : ∃ K, N - M = K := ⟨_, rfl⟩
    rw [hK] at hnd
    have hsub : IntKind.i64.wrap ((N : Int) - (M : Int)) = (K : Int) := by rw [IntKind.wrap_i64]; omega
    clear hno ho hB g3 g4 g5 hok hN ht hM h
    by_cases e1 : t = N
    · subst e1
      have b1 : ((t : Int) != (t : Int)) = false := by simp
      by_cases e2 : left = K
      · subst e2
        have b2 : ((K : Int) != (K : Int)) = false := by simp
        by_cases h6 : (K : Int) ≤ 6
        · have b3 : ((n : Int) != (K : Int)) = true := by
            simp only [bne_iff_ne, ne_eq]
            intro e
            exact hnd ⟨rfl, rfl, by omega⟩
          have h6' : min (K : Int) 6 = K := by omega
          clear hnd hK
          go_enter Try.func17, Try.ntmps17
          go_wp2_with fail
          go_quiet (fail)
          go_wp2_with fail
          refine (F.out _ (bel_drewN (Below.refl _ _) _)).mono ?_
          rintro e w1 ⟨rfl, hL, hc⟩
          go_wp2_with fail
          go_ret
          exact ⟨rfl, hL, (ChT.of_below (bel_drewN (Below.refl _ _) _) _ _).trans hc⟩
        · have h6' : (6 : Int) < K := by omega
          have b3 : ((n : Int) != (6 : Int)) = true := by
            simp only [bne_iff_ne, ne_eq]
            intro e
            exact hnd ⟨rfl, rfl, by omega⟩
          have h6'' : min (K : Int) 6 = 6 := by omega
          clear hnd hK
          go_enter Try.func17, Try.ntmps17
          go_wp2_with fail
          go_quiet (fail)
          go_wp2_with fail
          refine (F.out _ (bel_drewN (Below.refl _ _) _)).mono ?_
          rintro e w1 ⟨rfl, hL, hc⟩
          go_wp2_with fail
          go_ret
          exact ⟨rfl, hL, (ChT.of_below (bel_drewN (Below.refl _ _) _) _ _).trans hc⟩
      · have b2 : (left != (K : Int)) = true := by simpa using e2
        clear hnd hK
        go_enter Try.func17, Try.ntmps17
        go_wp2_with fail
        go_quiet (fail)
        go_wp2_with fail
        refine (F.out _ (bel_drewN (Below.refl _ _) _)).mono ?_
        rintro e w1 ⟨rfl, hL, hc⟩
        go_wp2_with fail
        go_ret
        exact ⟨rfl, hL, (ChT.of_below (bel_drewN (Below.refl _ _) _) _ _).trans hc⟩
    · have b1 : ((t : Int) != (N : Int)) = true := by
        simp only [bne_iff_ne, ne_eq]
        omega
      clear hnd hK hsub
      go_enter Try.func17, Try.ntmps17
      go_wp2_with fail
      go_quiet (fail)
      go_wp2_with fail
      refine (F.out _ (bel_drewN (Below.refl _ _) _)).mono ?_
      rintro e w1 ⟨rfl, hL, hc⟩
      go_wp2_with fail
      go_ret
      exact ⟨rfl, hL, (ChT.of_below (bel_drewN (Below.refl _ _) _) _ _).trans hc⟩
end Go.Proofs.Ytgkmeekefinmkaa
