/- A name's bytes: strings.ContainsFunc(name, r <= ' ') is: some byte is 32 at most. -/
import Derived.Test.YtmcmlglacblkiaaTyp
import Derived.Lib.OthersKept
import Derived.Lib.TrimU
import Derived.Deep.LoopGhost
namespace Go.Proofs.Ytmcmlglacblkiaa
open Go.RowKit
set_option linter.unusedVariables false
set_option linter.unusedSimpArgs false
def byteAt (s : ByteArray) (j : Nat) : Nat := (s.get! j).toNat
/-- Some byte is 32 at most. -/
def ctl (s : ByteArray) : Bool := (List.range s.size).any fun j => decide (byteAt s j ≤ 32)
theorem ctl_yes (s : ByteArray) (j : Nat) (hj : j < s.size) (h : byteAt s j ≤ 32) : ctl s = true := by
  unfold ctl
  rw [List.any_eq_true]
  exact ⟨j, List.mem_range.2 hj, by simpa using h⟩
theorem ctl_no (s : ByteArray) (h : ∀ j, j < s.size → 32 < byteAt s j) : ctl s = false := by
  unfold ctl
  rw [List.any_eq_false]
  intro j hj
  have := h j (List.mem_range.1 hj)
  simp; omega
/-- What a rune's bytes are. -/
theorem dec_law (s : ByteArray) (pos : Nat) (hp : pos < s.size) : ((Utf8.decode s pos).1 ≤ 32 → byteAt s pos ≤ 32) ∧ (32 < (Utf8.decode s pos).1 → ∀ j, pos ≤ j → j < pos + (Utf8.decode s pos).2 → 32 < byteAt s j) := by
  have hc : ∀ k, (s.get! (pos + k)).toNat / 64 = 2 → 32 < byteAt s (pos + k) := fun k h => by unfold byteAt; omega
  have h0 : byteAt s pos = (s.get! (pos + 0)).toNat := rfl
  have hone : ∀ (P : Nat), 128 ≤ byteAt s pos → ∀ j, pos ≤ j → j < pos + 1 → 32 < byteAt s j := fun _ h j h1 h2 => by
    obtain rfl : j = pos := by omega
    omega
  unfold Utf8.decode
  simp only [ge_iff_le, Bool.and_eq_true, beq_iff_eq, decide_eq_true_eq]
  split
  case isTrue h =>
    refine ⟨fun h1 => by rw [h0]; exact h1, fun h1 j h2 h3 => ?_⟩
    obtain rfl : j = pos := by simp at h3; omega
    rw [h0]; exact h1
  case isFalse h =>
    have hb : 128 ≤ byteAt s pos := by rw [h0]; omega
    split
    case isTrue h2 =>
      split
      case isTrue h3 =>
        refine ⟨fun h4 => by dsimp only at h4; omega, fun _ j h5 h6 => ?_⟩
        simp at h6
        obtain rfl | rfl : j = pos ∨ j = pos + 1 := by omega
        · omega
        · exact hc 1 h2.2.2
      case isFalse h3 => exact ⟨fun h4 => by simp [Utf8.runeError] at h4, fun _ => hone 0 hb⟩
    case isFalse h2 =>
      split
      case isTrue h3 =>
        split
        case isTrue h4 =>
          refine ⟨fun h5 => by dsimp only at h5; omega, fun _ j h5 h6 => ?_⟩
          simp at h6
          obtain rfl | rfl | rfl : j = pos ∨ j = pos + 1 ∨ j = pos + 2 := by omega
          · omega
          · exact hc 1 h3.1.2.2
          · exact hc 2 h3.2.2
        case isFalse h4 => exact ⟨fun h4 => by simp [Utf8.runeError] at h4, fun _ => hone 0 hb⟩
      case isFalse h3 =>
        split
        case isTrue h4 =>
          split
          case isTrue h5 =>
            refine ⟨fun h6 => by dsimp only at h6; omega, fun _ j h6 h7 => ?_⟩
            simp at h7
            obtain rfl | rfl | rfl | rfl : j = pos ∨ j = pos + 1 ∨ j = pos + 2 ∨ j = pos + 3 := by omega
            · omega
            · exact hc 1 h4.1.1.2.2
            · exact hc 2 h4.1.2.2
            · exact hc 3 h4.2.2
          case isFalse h5 => exact ⟨fun h4 => by simp [Utf8.runeError] at h4, fun _ => hone 0 hb⟩
        case isFalse h4 => exact ⟨fun h4 => by simp [Utf8.runeError] at h4, fun _ => hone 0 hb⟩
theorem clo_any (r : Int) (w : World) : Calls Try.prog 31 #[.int .i32 r] w fun e w' => e = .returned (.bool (decide (r ≤ 32))) ∧ w = w' := by
  by_cases h : r ≤ 32
  · go_enter Try.func31, Try.ntmps31
    go_wp2_with fail
    go_ret
    exact ⟨by simp [h], rfl⟩
  · go_enter Try.func31, Try.ntmps31
    go_wp2_with fail
    go_ret
    exact ⟨by simp [h], rfl⟩
def IdxP (w : World) (s : ByteArray) (e : Ending) (w' : World) : Prop := ∃ i : Int, e = .returned (.int .i64 i) ∧ decide (0 ≤ i) = ctl s ∧ Below w.heap.size w w'
set_option maxHeartbeats 2000000 in
theorem index_any (s : ByteArray) (w : World) : Calls Try.prog 39 #[.string s, .func (.func 31) #[] #[], .bool true] w (IdxP w s) := by
  go_enter Try.func39, Try.ntmps39
  go_wp2
  go_loopg [] s.size (fun g wx => ∃ pos : Nat, wx.heap[w.heap.size]? = some (.stringIter s pos) ∧ Below w.heap.size w wx ∧ (∀ j, j < pos → j < s.size → 32 < byteAt s j) ∧ s.size ≤ pos + g)
  case atStart => exact ⟨0, World.iter_heap w s 0, (Below.refl _ w).alloc (Nat.le_refl _) _, fun j h => by omega, by omega⟩
  case round =>
    obtain ⟨pos, hit, hbw, hno, hfu⟩ := hrel
    have hsz : w.heap.size < wr.heap.size := (Array.getElem?_eq_some_iff.1 hit).1
    by_cases hp : pos < s.size
    · obtain ⟨g, rfl⟩ : ∃ g, gk = g + 1 := ⟨gk - 1, by omega⟩
      have hnx : ∀ ty, (Instr.next (.pointer (some ⟨w.heap.size, 0, none⟩)) true ty).run Try.prog wr = _ := fun ty => Lib.run_next_any_at wr w.heap.size s pos ty hit hp
      have hwd := Lib.width_pos s pos
      have hr1 := Lib.rune_le s pos
      obtain ⟨d1, d2⟩ := dec_law s pos hp
      obtain ⟨R, hR⟩ : ∃ R, (Utf8.decode s pos).1 = R := ⟨_, rfl⟩
      obtain ⟨K, hK⟩ : ∃ K, (Utf8.decode s pos).2 = K := ⟨_, rfl⟩
      rw [hR, hK] at hnx
      rw [hR] at hr1 d1 d2
      rw [hK] at hwd d2
      have hit2 := Lib.iterAt_heap wr w.heap.size s pos (pos + K) hit
      have hbw2 := Lib.below_iterAt hbw (k := w.heap.size) (Nat.le_refl _) s (pos + K)
      obtain ⟨W, hWd⟩ : ∃ W, wr.iterAt w.heap.size s (pos + K) = W := ⟨_, rfl⟩
      rw [hWd] at hnx hit2 hbw2
      have HNO := Lib.hid hno
      have D1 := Lib.hid d1
      have D2 := Lib.hid d2
      have cS := Lib.hid (clo_any (R : Int) W)
      clear hno d1 d2 hR hK hWd
      by_cases h32 : R ≤ 32
      · have hct := ctl_yes s pos hp (D1.out h32)
        have hd : decide ((R : Int) ≤ 32) = true := by simpa using (show (R : Int) ≤ 32 by omega)
        rw [hd] at cS
        clear hd
        go_wp2_with (go_at_call 31; refine (cS.out).mono ?_; rintro e W' ⟨rfl, rfl⟩)
        go_ret
        exact ⟨pos, rfl, by rw [hct]; simp, hbw2⟩
      · have hd : decide ((R : Int) ≤ 32) = false := by simpa using (show ¬ (R : Int) ≤ 32 by omega)
        rw [hd] at cS
        clear hd
        go_wp2_with (go_at_call 31; refine (cS.out).mono ?_; rintro e W' ⟨rfl, rfl⟩)
        go_roundg g
        case measure => omega
        case rel =>
          refine ⟨pos + K, hit2, hbw2, fun j hj hjs => ?_, by omega⟩
          rcases Nat.lt_or_ge j pos with h | h
          · exact HNO.out j h hjs
          · exact D2.out (by omega) j h hj
    · have hnx : ∀ ty, (Instr.next (.pointer (some ⟨w.heap.size, 0, none⟩)) true ty).run Try.prog wr = _ := fun ty => Lib.run_next_end_at wr w.heap.size s pos ty hit hp
      have hct := ctl_no s (fun j hj => hno j (by omega) hj)
      go_wp2_with fail
      go_ret
      exact ⟨-1, rfl, by rw [hct]; rfl, hbw⟩
theorem contains_any (s : ByteArray) (w : World) : Calls Try.prog 30 #[.string s, .func (.func 31) #[] #[]] w fun e w' => e = .returned (.bool (ctl s)) ∧ Below w.heap.size w w' := by
  have IX := Lib.hid (index_any s)
  have I2 : Hid (∀ w, Calls Try.prog 37 #[.string s, .func (.func 31) #[] #[]] w (IdxP w s)) := fun w => by
    go_enter Try.func37, Try.ntmps37
    go_wp2_with fail
    refine (IX.out _).mono ?_
    rintro e w1 ⟨i, rfl, hi, hb⟩
    go_wp2_with fail
    go_ret
    exact ⟨i, rfl, hi, hb⟩
  go_enter Try.func30, Try.ntmps30
  go_wp2_with fail
  refine (I2.out _).mono ?_
  rintro e w1 ⟨i, rfl, hi, hb⟩
  go_wp2_with fail
  go_ret
  exact ⟨by rw [← hi]; rfl, hb⟩
end Go.Proofs.Ytmcmlglacblkiaa
