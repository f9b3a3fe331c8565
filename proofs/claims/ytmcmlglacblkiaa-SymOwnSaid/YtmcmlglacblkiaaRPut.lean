/- calliperref04.Put. -/
import Derived.Test.YtmcmlglacblkiaaPut
import Derived.Test.YtmcmlglacblkiaaTake
namespace Go.Proofs.Ytmcmlglacblkiaa
open Go.RowKit
set_option linter.unusedVariables false
set_option linter.unusedSimpArgs false
theorem putB_get (v : Int) (m : Nat) (big : Bool) (i : Nat) (hi : i < m) : (putB v m big)[i]? = some (v / (256 : Int) ^ (if big then m - 1 - i else i) % 256) := by
  cases big
  · simp [putB, le, hi]
  · simp only [putB, if_true]
    rw [List.getElem?_reverse (by rw [le_len]; exact hi), le_len]
    simp only [le, List.getElem?_map]
    rw [List.getElem?_range (by omega)]
    rfl
theorem rput_no (A : Option Addr) (n c : Nat) (v wide : Int) (big : Bool) (w : World) (hw : isW wide = false) :
    Calls Try.prog 25 #[.slice A n c, .int .u64 v, .int .i64 wide, .bool big] w fun e w' => e = .returned (.tuple #[.slice none 0 0, .int .i64 1]) ∧ w = w' := by
  have HW := Lib.hid hw
  clear hw
  go_enter Try.func25, Try.ntmps25
  go_wp2_with (go_at_call 35; refine (rwidth_any _ _).mono ?_; rw [HW.out]; rintro e w' ⟨rfl, rfl⟩)
  go_ret2
  exact ⟨rfl, rfl⟩
set_option maxHeartbeats 2000000 in
theorem rput_any (A : Option Addr) (n c : Nat) (xs : List Int) (v : Int) (m : Nat) (big : Bool) (w : World) (hw : isW m = true) (hx : xs.length = n) (hr : Rd w w.heap.size A (u8s xs)) (hl : n ≤ 100000) (h0 : 0 ≤ v) (h1 : v < 18446744073709551616) :
    Calls Try.prog 25 #[.slice A n c, .int .u64 v, .int .i64 m, .bool big] w (RetP w (xs ++ putB v m big)) := by
  have hm : m ≤ 8 := by have := isW_cases hw; omega
  have HW := Lib.hid hw
  have HX := Lib.hid hx
  have HL : Hid ((xs ++ putB v m big).length = n + m) := by show _ = _; rw [List.length_append, hx, putB_len]
  have HPL : Hid ((putB v m big).length = m) := putB_len _ _ _
  have HG : Hid (∀ i, i < m → (putB v m big)[i]? = some (v / (256 : Int) ^ (if big then m - 1 - i else i) % 256)) := fun i hi => putB_get v m big i hi
  clear hw hx
  generalize hps : putB v m big = ps at *
  clear hps
  have hbel := (Below.refl w.heap.size w).alloc (Nat.le_refl _) (.cells #[] 5)
  have ho := Own.made (e := 5) (size := 1) w (Nat.le_refl _) #[] 0 0 (by decide) (by decide) rfl
  have hr' := hr.al (.cells #[] 5)
  go_enter Try.func25, Try.ntmps25
  go_wp2_with (first | (go_at_call 35; refine (rwidth_any _ _).mono ?_; rw [HW.out]; rintro e w' ⟨rfl, rfl⟩) | (at_builtin; refine wpList_app _ rfl (.tmp 18) (.tmp 19) 25 rfl w.heap.size 5 (.int .u8 0) 1 1 Try.underlying25 info5 rfl (by decide) _ 0 0 [] rfl ho _ _ n c _ rfl (by simp [HX.out]) hr' (u8s_one _) (by unfold maxLen; omega) (by omega) (by simp) ?_; intro A' c' w1 hown hg hbk))
  simp only [Nat.zero_add, List.nil_append] at hown
  have hb1 := bel_app hbel ho (Nat.le_refl _) hg
  clear ho hg hbk hbel hr hr'
  go_loopw [10, 11] (fun s i wr => ∃ (k : Nat) (B : Option Addr) (d : Nat), k ≤ m ∧ i = .int .i64 k ∧ s = .slice B (n + k) d ∧ Own wr w.heap.size 5 1 B (n + k) d (u8s (xs ++ ps.take k)) ∧ Below w.heap.size w wr) (fun _ i _ => m - (intOf i).toNat)
  case atStart => exact ⟨0, A', c', Nat.zero_le _, rfl, rfl, by simpa using hown, hb1⟩
  case round =>
    obtain ⟨k, B, d, hk, rfl, rfl, hown, hbel⟩ := hrel
    have hz := hbel.size
    by_cases hlt : k < m
    · have hlt' : (k : Int) < m := by omega
      have hg := HG.out k hlt
      have HS : Hid (u8s (xs ++ ps.take k) ++ [.int .u8 (v / (256 : Int) ^ (if big = true then m - 1 - k else k) % 256)] = u8s (xs ++ ps.take (k + 1))) := by
        show _ = _
        rw [take_snoc' ps k _ hg, u8s_snoc, List.append_assoc]
      clear hg
      obtain ⟨K, hK⟩ : ∃ K : Nat, (if big = true then m - 1 - k else k) = K := ⟨_, rfl⟩
      rw [hK] at HS
      have hKm : K ≤ 7 := by rw [← hK]; split <;> omega
      have hK' : big = true → (m : Int) - 1 - k = K := fun h => by rw [← hK, if_pos h]; omega
      have hK2 : big = false → k = K := fun h => by rw [← hK, if_neg (by simp [h])]
      clear hK
      cases big
      case' false => obtain ⟨K, rfl⟩ : ∃ K' : Nat, K' = K := ⟨_, rfl⟩; have hK3 : (k : Int) = K := by rw [hK2 rfl]
      case' true => have hK3 := hK' rfl
      all_goals
        clear hK' hK2
        go_wp2_with fail
        have e0 : v = v / (256 : Int) ^ 0 := by simp
        have E0 := Lib.hid e0
        clear e0
        go_loop [13, 14] (fun x j => ∃ i : Nat, i ≤ K ∧ j = .int .i64 i ∧ x = .int .u64 (v / (256 : Int) ^ i)) (fun _ j => K - (intOf j).toNat)
        case atStart => exact ⟨0, Nat.zero_le _, rfl, by rw [← E0.out]⟩
        case round =>
          obtain ⟨i, hi, rfl, rfl⟩ := hrel
          obtain ⟨b0, b1⟩ := div_bd v i h0 h1
          by_cases hli : i < K
          · have hli' : (i : Int) < K := by omega
            have HD := Lib.hid (div_succ v i)
            go_wp2
            go_round
            case rel => exact ⟨i + 1, by omega, by go_num, by rw [HD.out]⟩
            case measure => simp [intOf]; omega
          · obtain rfl : i = K := by omega
            go_wp2_with (at_builtin; refine wpList_app _ rfl (.tmp 40) (.tmp 44) 25 rfl w.heap.size 5 (.int .u8 0) 1 1 Try.underlying25 info5 rfl (by decide) B (n + k) d _ rfl (hown.alloc _) _ _ 1 1 _ rfl rfl (Rd.one wr (.int .u8 _) 5) (one_one rfl) (by unfold maxLen; omega) (by omega) (by simp; omega) ?_; intro A'' c'' w' hown' hg hbk)
            go_roundw
            case rel => exact ⟨k + 1, A'', c'', by omega, by go_num, rfl, by rw [← HS.out]; exact hown', bel_app (hbel.alloc hz _) (hown.alloc _) (Nat.le_refl _) hg⟩
            case measure => simp [intOf]; omega
    · obtain rfl : k = m := by omega
      go_wp2_with fail
      go_ret2
      refine ⟨B, d, by rw [HL.out]; rfl, ?_, hbel⟩
      rw [HL.out]
      rwa [List.take_of_length_le (by rw [HPL.out]; exact Nat.le_refl _)] at hown
end Go.Proofs.Ytmcmlglacblkiaa
