/- The reference's Put. -/
import Derived.Test.YtchneedpgpocnaaRX
import Derived.Deep.QuietTactic
import Derived.BigQuiet
namespace Go.Proofs.Ytchneedpgpocnaa
open Go.RowKit
set_option linter.unusedVariables false
set_option linter.unusedSimpArgs false
set_option maxRecDepth 100000 in
set_option maxHeartbeats 1000000 in
theorem rput_no (q : Addr) (list : Int) (A : Option Addr) (n c : Nat) (l : List It) (w : World) (hx : l.length = n) (hl : n ≤ maxLen) (hr : Rd w w.heap.size A (cellsL l)) (h : list < 0 ∨ 4 ≤ list ∨ n = 0 ∨ bad l = true) :
    Calls Try.prog 16 #[.pointer (some q), .int .i64 list, .slice A n c] w fun e w' => e = .returned (.bool false) ∧ Below w.heap.size w w' := by
  have hl' : n ≤ 9223372036854775807 := hl
  by_cases h1 : list < 0
  · go_enter Try.func16, Try.ntmps16
    go_wp2_with fail
    go_ret
    exact ⟨rfl, Below.refl _ _⟩
  · have h1' : 0 ≤ list := by omega
    by_cases h2 : 4 ≤ list
    · go_enter Try.func16, Try.ntmps16
      go_wp2_with fail
      go_ret
      exact ⟨rfl, Below.refl _ _⟩
    · have h2' : list < 4 := by omega
      by_cases h3 : n = 0
      · subst h3
        go_enter Try.func16, Try.ntmps16
        go_wp2_with fail
        go_ret
        exact ⟨rfl, Below.refl _ _⟩
      · have h4 : bad l = true := by
          rcases h with h | h | h | h
          · omega
          · omega
          · omega
          · exact h
        have h3' : ((n : Int) == 0) = false := by simp; omega
        have HX := Lib.hid hx
        have H4 := Lib.hid h4
        clear h h4 hx
        go_enter Try.func16, Try.ntmps16
        go_wp2_with fail
        go_loopw [7] (fun i wr => ∃ k : Nat, k ≤ n ∧ i = .int .i64 k ∧ w = wr ∧ ∀ (m : Nat) (t : It), m < k → l[m]? = some t → t.code < 64) (fun i _ => n - (intOf i).toNat)
        case atStart => exact ⟨0, Nat.zero_le _, rfl, rfl, fun m t h => by omega⟩
        case round =>
          obtain ⟨k, hk, rfl, rfl, hlow⟩ := hrel
          have HL := Lib.hid hlow
          clear hlow
          by_cases hlt : k < n
          · have hlt' : (k : Int) < n := by omega
            obtain ⟨t, ht⟩ : ∃ t, l[k]? = some t := ⟨_, List.getElem?_eq_getElem (by rw [HX.out]; exact hlt)⟩
            obtain ⟨b, o, rfl, -, hc⟩ := hr (by intro h; have h2 := cellsL_len l; rw [h, HX.out] at h2; simp at h2; omega)
            obtain ⟨g0, g1, g2⟩ := cellsL_get l k t ht
            have q1 := hc _ _ g1
            rw [← Nat.add_assoc] at q1
            have HT := Lib.hid ht
            clear ht g0 g1 g2 hc
            by_cases hcd : 64 ≤ t.code
            · go_wp2_with fail
              go_ret
              exact ⟨rfl, Below.refl _ _⟩
            · have hcd' : t.code < 64 := by omega
              go_wp2_with fail
              go_roundw
              case rel =>
                refine ⟨k + 1, by omega, by go_num, trivial, fun m u hm hu => ?_⟩
                rcases Nat.lt_or_ge m k with h | h
                · exact HL.out m u h hu
                · obtain rfl : m = k := by omega
                  have := HT.out
                  rw [hu] at this
                  injection this with this
                  rw [this]; exact hcd'
              case measure => simp [intOf]; omega
          · exfalso
            have := H4.out
            rw [bad_no l fun m t ht => HL.out m t (by have := (List.getElem?_eq_some_iff.1 ht).1; have := HX.out; omega) ht] at this
            cases this
set_option maxRecDepth 100000 in
set_option maxHeartbeats 2000000 in
theorem rput_full (q : Nat) (AQ : Option Addr) (cQ : Nat) (s : Qs) (j : Nat) (A : Option Addr) (n c : Nat) (l : List It) (w : World) (hQ : Rat w q AQ cQ s) (hj : j < 4) (hx : l.length = n) (hn : 0 < n) (hl : n ≤ 1000000) (hr : Rd w w.heap.size A (cellsL l)) (hb : bad l = false)
    (hs : s.l.length ≤ 1000000) (hm : s.most < s.l.length + n) :
    Calls Try.prog 16 #[.pointer (some ⟨q, 0, none⟩), .int .i64 j, .slice A n c] w fun e w' => e = .returned (.bool false) ∧ Rat w' q AQ cQ { s with lost := s.lost.set j true } ∧ Chg (fun g => g = q) w w' := by
  have h3' : ((n : Int) == 0) = false := by simp; omega
  have h1' : 0 ≤ (j : Int) := by omega
  have h2' : (j : Int) < 4 := by omega
  have hd1 : decide ((j : Int) < 0) = false := by simp
  have hd2 : decide (4 ≤ (j : Int)) = false := by simp; omega
  have HX := Lib.hid hx
  have HB := Lib.hid hb
  clear hx hb
  go_enter Try.func16, Try.ntmps16
  go_wp2_with fail
  go_loopw [7] (fun i wr => ∃ k : Nat, k ≤ n ∧ i = .int .i64 k ∧ w = wr) (fun i _ => n - (intOf i).toNat)
  case atStart => exact ⟨0, Nat.zero_le _, rfl, rfl⟩
  case round =>
    obtain ⟨k, hk, rfl, rfl⟩ := hrel
    by_cases hlt : k < n
    · have hlt' : (k : Int) < n := by omega
      obtain ⟨t, ht⟩ : ∃ t, l[k]? = some t := ⟨_, List.getElem?_eq_getElem (by rw [HX.out]; exact hlt)⟩
      obtain ⟨b, o, rfl, -, hc⟩ := hr (by intro h; have h2 := cellsL_len l; rw [h, HX.out] at h2; simp at h2; omega)
      obtain ⟨g0, g1, g2⟩ := cellsL_get l k t ht
      have q1 := hc _ _ g1
      rw [← Nat.add_assoc] at q1
      have hcd' : t.code < 64 := by
        have := HB.out
        rw [bad, List.any_eq_false] at this
        have := this t (List.mem_of_getElem? ht)
        simpa using this
      clear ht g0 g1 g2 hc
      go_wp2_with fail
      go_roundw
      case rel => exact ⟨k + 1, by omega, by go_num, trivial⟩
      case measure => simp [intOf]; omega
    · obtain rfl : k = n := by omega
      obtain ⟨c0, c1⟩ := hQ.c0
      have hf := hQ.blk.frozen
      obtain ⟨b, hb4⟩ : ∃ b, s.lost[j]? = some b := ⟨_, List.getElem?_eq_getElem (by rw [hQ.four]; exact hj)⟩
      have cj : w.cell? ⟨q, 2 + j, none⟩ = some (.bool b) := (hQ.blk.cell _).trans (qcs_at _ _ _ _ _ _ _ hb4)
      have hw1 : IntKind.i64.wrap ((s.l.length : Int) + k) = (s.l.length : Int) + k := by rw [IntKind.wrap_i64]; omega
      clear hb4
      go_wp2_with fail
      go_quiet (fail)
      go_wp2_with fail
      go_ret
      exact ⟨rfl, (hQ.below (bel_drewN (Below.refl _ _) nq)).lost_ j true, ((Chg.refl (fun g => g = q) _).drewN nq).at_ (q := q) (Eq.refl q) _ _⟩
end Go.Proofs.Ytchneedpgpocnaa
