/- Plain laws of meanings: what bytes mean comes back as these bytes, and the other way about. -/
import Derived.Test.YtmcmlglacblkiaaY3
namespace Go.Proofs.Ytmcmlglacblkiaa
open Go.RowKit
set_option linter.unusedVariables false
set_option linter.unusedSimpArgs false
theorem le1 (v : Int) : le v 1 = [v % 256] := by simp [le, List.range_succ]
theorem le2 (v : Int) : le v 2 = [v % 256, v / 256 % 256] := by simp [le, List.range_succ]
theorem le4 (v : Int) : le v 4 = [v % 256, v / 256 % 256, v / 65536 % 256, v / 16777216 % 256] := by simp [le, List.range_succ]
theorem putB_put (v : Int) (n : Nat) (big : Bool) : putB v n big = if big then (le v n).reverse else le v n := rfl
theorem put_of (b : List Int) (big : Bool) (V : Int) (h : b8 b) (hl : b.length = 1 ∨ b.length = 2 ∨ b.length = 4) (hV : V % (256 : Int) ^ b.length = takeB b big) : putB V b.length big = b := by
  match b, hl with
  | [x], _ =>
    have hx := h x (by simp)
    have hV : V % 256 = x := by
      have : takeB [x] big = x := by cases big <;> (show 0 * 256 + x = x; omega)
      rw [← this, ← hV]; rfl
    show putB V 1 big = _
    rw [putB_put, le1, hV]
    cases big <;> rfl
  | [x, y], _ =>
    have hp : (256 : Int) ^ [x, y].length = 65536 := by show (256 : Int) ^ 2 = 65536; decide
    rw [hp] at hV
    have hx := h x (by simp)
    have hy := h y (by simp)
    cases big
    · have hV : V % 65536 = y * 256 + x := by
        have : takeB [x, y] false = y * 256 + x := by show (0 * 256 + y) * 256 + x = _; omega
        rw [← this, ← hV]
      show putB V 2 false = _
      rw [putB_put, le2, if_neg (by decide), show V % 256 = x by omega, show V / 256 % 256 = y by omega]
    · have hV : V % 65536 = x * 256 + y := by
        have : takeB [x, y] true = x * 256 + y := by show (0 * 256 + x) * 256 + y = _; omega
        rw [← this, ← hV]
      show putB V 2 true = _
      rw [putB_put, le2, if_pos rfl, show V % 256 = y by omega, show V / 256 % 256 = x by omega]
      rfl
  | [x, y, z, t], _ =>
    have hp : (256 : Int) ^ [x, y, z, t].length = 4294967296 := by show (256 : Int) ^ 4 = 4294967296; decide
    rw [hp] at hV
    have hx := h x (by simp)
    have hy := h y (by simp)
    have hz := h z (by simp)
    have ht := h t (by simp)
    cases big
    · have hV : V % 4294967296 = ((t * 256 + z) * 256 + y) * 256 + x := by
        have : takeB [x, y, z, t] false = ((t * 256 + z) * 256 + y) * 256 + x := by show (((0 * 256 + t) * 256 + z) * 256 + y) * 256 + x = _; omega
        rw [← this, ← hV]
      show putB V 4 false = _
      rw [putB_put, le4, if_neg (by decide), show V % 256 = x by omega, show V / 256 % 256 = y by omega, show V / 65536 % 256 = z by omega, show V / 16777216 % 256 = t by omega]
    · have hV : V % 4294967296 = ((x * 256 + y) * 256 + z) * 256 + t := by
        have : takeB [x, y, z, t] true = ((x * 256 + y) * 256 + z) * 256 + t := by show (((0 * 256 + x) * 256 + y) * 256 + z) * 256 + t = _; omega
        rw [← this, ← hV]
      show putB V 4 true = _
      rw [putB_put, le4, if_pos rfl, show V % 256 = t by omega, show V / 256 % 256 = z by omega, show V / 65536 % 256 = y by omega, show V / 16777216 % 256 = x by omega]
      rfl
theorem take_put (V : Int) (n : Nat) (big : Bool) (hn : n = 1 ∨ n = 2 ∨ n = 4) : takeB (putB V n big) big = V % (256 : Int) ^ n := by
  rcases hn with rfl | rfl | rfl
  · rw [putB_put, le1]
    cases big <;> (show 0 * 256 + V % 256 = V % 256; omega)
  · rw [putB_put, le2]
    cases big <;> (show (0 * 256 + V / 256 % 256) * 256 + V % 256 = V % 65536; omega)
  · rw [putB_put, le4]
    cases big <;> (show (((0 * 256 + V / 16777216 % 256) * 256 + V / 65536 % 256) * 256 + V / 256 % 256) * 256 + V % 256 = V % 4294967296; omega)
theorem putB_b8 (V : Int) (n : Nat) (big : Bool) : b8 (putB V n big) := fun x hx => by
  have hl : b8 (le V n) := fun x hx => by
    obtain ⟨i, _, rfl⟩ := List.mem_map.1 hx
    omega
  unfold putB at hx
  split at hx
  · exact hl x (List.mem_reverse.1 hx)
  · exact hl x hx
theorem fits_un' (X : Int) (n : Nat) (hn : n = 1 ∨ n = 2 ∨ n = 4) : fits X n false = true ↔ 0 ≤ X ∧ X < (256 : Int) ^ n := by
  rcases hn with rfl | rfl | rfl <;> simp [fits, isW, mod8]
theorem fits_sg' (X : Int) (n : Nat) (hn : n = 1 ∨ n = 2 ∨ n = 4) : fits X n true = true ↔ sgn X ((256 : Int) ^ n) = X := by
  rcases hn with rfl | rfl | rfl <;> simp [fits, isW, mod8]
theorem wd_nat (s : Sy) (h : s.wd = 1 ∨ s.wd = 2 ∨ s.wd = 4) : ∃ n : Nat, s.wd = n ∧ (n = 1 ∨ n = 2 ∨ n = 4) ∧ mod8 s.wd = (256 : Int) ^ n := by
  rcases h with h | h | h
  · exact ⟨1, by rw [h]; rfl, by omega, by rw [h]; rfl⟩
  · exact ⟨2, by rw [h]; rfl, by omega, by rw [h]; rfl⟩
  · exact ⟨4, by rw [h]; rfl, by omega, by rw [h]; rfl⟩
/-- Numbers of bytes: what fits, and what is of bytes. -/
theorem num_put (s : Sy) (X : Int) (hw : s.wd = 1 ∨ s.wd = 2 ∨ s.wd = 4) (h : fits X s.wd s.sg = true) (hX : -4294967296 ≤ X ∧ X ≤ 4294967296) : s.num (putB (IntKind.u64.wrap X) s.wd.toNat s.bg) = X := by
  obtain ⟨n, hn, hn3, hm⟩ := wd_nat s hw
  unfold Sy.num
  rw [hn, Int.toNat_natCast, take_put _ _ _ hn3, IntKind.wrap_u64]
  rw [hn] at h hm
  cases hs : s.sg
  · rw [hs] at h
    have := (fits_un' X n hn3).1 h
    rw [if_neg (by decide)]
    rcases hn3 with rfl | rfl | rfl <;> simp at this ⊢ <;> omega
  · rw [hs] at h
    have := (fits_sg' X n hn3).1 h
    rw [if_pos rfl, hm]
    unfold sgn at this ⊢
    rcases hn3 with rfl | rfl | rfl <;> simp at this ⊢ <;> omega
theorem put_num (s : Sy) (b : List Int) (hb : b8 b) (hw : s.wd = 1 ∨ s.wd = 2 ∨ s.wd = 4) (hl : (b.length : Int) = s.wd) : fits (s.num b) s.wd s.sg = true ∧ putB (IntKind.u64.wrap (s.num b)) s.wd.toNat s.bg = b := by
  obtain ⟨n, hn, hn3, hm⟩ := wd_nat s hw
  obtain rfl : b.length = n := by omega
  have hT := takeB_bd b s.bg hb
  obtain ⟨T, hTT⟩ : ∃ T, takeB b s.bg = T := ⟨_, rfl⟩
  have hnum : s.num b = if s.sg then sgn T ((256 : Int) ^ b.length) else T := by unfold Sy.num; rw [hTT, hm]
  rw [hTT] at hT
  rw [hn, Int.toNat_natCast, hnum]
  cases hs : s.sg
  · rw [if_neg (by decide)]
    refine ⟨(fits_un' T _ hn3).2 hT, put_of b s.bg _ hb hn3 ?_⟩
    rw [hTT, IntKind.wrap_u64]
    rcases hn3 with h | h | h <;> rw [h] at hT ⊢ <;> simp at hT ⊢ <;> omega
  · rw [if_pos rfl]
    refine ⟨(fits_sg' _ _ hn3).2 ?_, put_of b s.bg _ hb hn3 ?_⟩
    · unfold sgn
      rcases hn3 with h | h | h <;> rw [h] at hT ⊢ <;> simp at hT ⊢ <;> omega
    · rw [hTT, IntKind.wrap_u64]
      unfold sgn
      rcases hn3 with h | h | h <;> rw [h] at hT ⊢ <;> simp at hT ⊢ <;> omega
theorem fits_bd (s : Sy) (X : Int) (hw : s.wd = 1 ∨ s.wd = 2 ∨ s.wd = 4) (h : fits X s.wd s.sg = true) : -4294967296 ≤ X ∧ X ≤ 4294967296 := by
  obtain ⟨n, hn, hn3, hm⟩ := wd_nat s hw
  rw [hn] at h
  cases hs : s.sg
  · rw [hs] at h
    have := (fits_un' X n hn3).1 h
    rcases hn3 with rfl | rfl | rfl <;> simp at this <;> omega
  · rw [hs] at h
    have := (fits_sg' X n hn3).1 h
    unfold sgn at this
    rcases hn3 with rfl | rfl | rfl <;> simp at this <;> omega
/-- What bytes mean comes back as these bytes. -/
theorem back1 (s : Sy) (b : List Int) (hb : b8 b) (n : Int) (h : s.takeV b = (n, 0)) (ha : -2147483648 ≤ s.ad ∧ s.ad ≤ 2147483647) : s.putV n = some b := by
  unfold Sy.takeV at h
  split at h
  case isFalse => injection h with h1 h2; cases h2
  case isTrue hm =>
  split at h
  case isFalse => injection h with h1 h2; cases h2
  case isTrue hl =>
    injection h with h1 h2
    have hmi := (may_iff s).1 hm
    obtain ⟨hf, hp⟩ := put_num s b hb hmi.2.2 hl
    have hnb := num_bd s b hb hmi.2.2 hl
    have hmb := mul_bd s.mu (s.num b) 16777216 4294967296 hmi.2.1.2.1 hmi.2.1.2.2 hnb.2.2.1 hnb.2.2.2 (by decide) (by decide)
    have hd : n - s.ad = s.mu * s.num b := by omega
    have hq : s.quo n = s.num b := by
      unfold Sy.quo
      rw [hd, Int.mul_tdiv_cancel_left _ hmi.2.1.1]
    rw [putV_yes s n ⟨hm, by omega, by omega, by rw [hd]; exact Int.mul_tmod_right _ _, by rw [hq]; exact hf⟩]
    unfold Sy.putL
    rw [hq, hp]
/-- A meaning that has bytes comes back from them. -/
theorem back2 (s : Sy) (v : Int) (b : List Int) (h : s.putV v = some b) : s.takeV b = (v, 0) ∧ (b.length : Int) = s.wd ∧ s.may = true ∧ b8 b := by
  by_cases hk : s.putOk v
  · rw [putV_yes s v hk] at h
    injection h with h
    subst h
    obtain ⟨hm, h1, h2, h3, h4⟩ := hk
    have hmi := (may_iff s).1 hm
    obtain ⟨n, hn, hn3, -⟩ := wd_nat s hmi.2.2
    have hlen : ((s.putL v).length : Int) = s.wd := by unfold Sy.putL; rw [putB_len, hn, Int.toNat_natCast]
    have hnp := num_put s (s.quo v) hmi.2.2 h4 (fits_bd s _ hmi.2.2 h4)
    refine ⟨?_, hlen, hm, putB_b8 _ _ _⟩
    unfold Sy.takeV
    rw [hm, if_pos rfl, if_pos hlen]
    have hnum : s.num (s.putL v) = s.quo v := hnp
    rw [hnum]
    have := Int.mul_tdiv_add_tmod (v - s.ad) s.mu
    unfold Sy.quo
    rw [h3] at this
    congr 1
    omega
  · rw [putV_no s v hk] at h
    cases h
end Go.Proofs.Ytmcmlglacblkiaa
