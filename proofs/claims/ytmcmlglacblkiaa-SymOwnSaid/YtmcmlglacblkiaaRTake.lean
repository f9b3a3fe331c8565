/- calliperref04.Take. -/
import Derived.Test.YtmcmlglacblkiaaTake
namespace Go.Proofs.Ytmcmlglacblkiaa
open Go.RowKit
set_option linter.unusedVariables false
set_option linter.unusedSimpArgs false
theorem rtake_no (A : Option Addr) (n c : Nat) (wide : Int) (big : Bool) (w : World) (hw : isW wide = false) :
    Calls Try.prog 28 #[.slice A n c, .int .i64 wide, .bool big] w fun e w' => e = .returned (.tuple #[.int .u64 0, .slice none 0 0, .int .i64 1]) ∧ w = w' := by
  have HW := Lib.hid hw
  clear hw
  go_enter Try.func28, Try.ntmps28
  go_wp2_with (go_at_call 35; refine (rwidth_any _ _).mono ?_; rw [HW.out]; rintro e w' ⟨rfl, rfl⟩)
  go_ret3
  exact ⟨rfl, rfl⟩
theorem rtake_short (A : Option Addr) (n c : Nat) (wide : Int) (big : Bool) (w : World) (hw : isW wide = true) (hn : (n : Int) < wide) :
    Calls Try.prog 28 #[.slice A n c, .int .i64 wide, .bool big] w fun e w' => e = .returned (.tuple #[.int .u64 0, .slice none 0 0, .int .i64 5]) ∧ w = w' := by
  have HW := Lib.hid hw
  clear hw
  go_enter Try.func28, Try.ntmps28
  go_wp2_with (go_at_call 35; refine (rwidth_any _ _).mono ?_; rw [HW.out]; rintro e w' ⟨rfl, rfl⟩)
  go_ret3
  exact ⟨rfl, rfl⟩
set_option maxHeartbeats 2000000 in
theorem rtake_any (A : Option Addr) (n c : Nat) (xs : List Int) (m : Nat) (big : Bool) (w : World) (hw : isW m = true) (hmn : m ≤ n) (hx : xs.length = n) (hr : Rd w w.heap.size A (u8s xs)) (hn : n ≤ c) (hl : n ≤ 100000) (hc : c ≤ maxLen) (hu : ∀ x ∈ xs, 0 ≤ x ∧ x < 256) :
    Calls Try.prog 28 #[.slice A n c, .int .i64 m, .bool big] w (RetT w (takeB (xs.take m) big) (xs.drop m)) := by
  unfold maxLen at hc
  have hm := isW_cases hw
  have HW := Lib.hid hw
  have hm8 : m ≤ 8 := by omega
  have hm1 : 1 ≤ m := by omega
  have hmn' : (m : Int) ≤ n := by omega
  obtain ⟨b, o, rfl, hbl, hcc⟩ := id hr (by intro h; have h' : xs = [] := (by simpa using h); rw [h'] at hx; simp at hx; omega)
  have hr2 : Rd w w.heap.size (some ⟨b, o + m, none⟩) (u8s (xs.drop m)) := fun hne => by
    refine ⟨b, o + m, rfl, hbl, fun i u hu => ?_⟩
    rw [Nat.add_assoc]
    refine hcc (m + i) u ?_
    rw [show u8s (xs.drop m) = (u8s xs).drop m from List.map_drop, List.getElem?_drop] at hu
    exact hu
  have hy : (xs.take m).length = m := by simp; omega
  have hz : (xs.drop m).length = n - m := by simp; omega
  have hu1 : ∀ x ∈ xs.take m, 0 ≤ x ∧ x < 256 := fun x hx => hu x (List.mem_of_mem_take hx)
  have HC := Lib.hid (fun k (x : Int) (h : (xs.take m)[k]? = some x) => hcc k (.int .u8 x) (by
    rw [List.getElem?_take] at h
    split at h
    · rw [List.getElem?_map, h]; rfl
    · cases h))
  clear hw hx hm hr hu hcc
  generalize xs.take m = ys at *
  generalize xs.drop m = zs at *
  have HY := Lib.hid hy
  have HZ := Lib.hid hz
  clear hy hz
  obtain ⟨ts, ht⟩ : ∃ ts, (if big = true then ys else ys.reverse) = ts := ⟨_, rfl⟩
  have HT : Hid (takeB ys big = be ts) := by rw [← ht]; cases big <;> rfl
  have htl : ts.length = m := by rw [← ht]; cases big <;> simp [HY.out]
  have htu : ∀ x ∈ ts, 0 ≤ x ∧ x < 256 := fun x hx => hu1 x (by rw [← ht] at hx; cases big <;> simpa using hx)
  have HTL := Lib.hid htl
  have HTU := Lib.hid htu
  have HG : Hid (∀ k, k < m → ∃ x, ts[k]? = some x ∧ ys[if big = true then k else m - 1 - k]? = some x) := fun k hk => by
    rw [← ht]
    cases big
    · simp only [Bool.false_eq_true, if_false]
      rw [List.getElem?_reverse (by rw [HY.out]; exact hk), HY.out]
      exact ⟨_, List.getElem?_eq_getElem (by rw [HY.out]; omega), List.getElem?_eq_getElem (by rw [HY.out]; omega)⟩
    · simp only [if_true]
      exact ⟨_, List.getElem?_eq_getElem (by rw [HY.out]; omega), List.getElem?_eq_getElem (by rw [HY.out]; omega)⟩
  clear htl htu hu1 ht
  go_enter Try.func28, Try.ntmps28
  go_wp2_with (go_at_call 35; refine (rwidth_any _ _).mono ?_; rw [HW.out]; rintro e w' ⟨rfl, rfl⟩)
  go_loop [9, 10] (fun v i => ∃ k : Nat, k ≤ m ∧ i = .int .i64 k ∧ v = .int .u64 (be (ts.take k))) (fun _ i => m - (intOf i).toNat)
  case atStart => exact ⟨0, Nat.zero_le _, rfl, rfl⟩
  case round =>
    obtain ⟨k, hk, rfl, rfl⟩ := hrel
    by_cases hlt : k < m
    · have hlt' : (k : Int) < m := by omega
      obtain ⟨x, hx, hxy⟩ := HG.out k hlt
      have hx1 := HTU.out x (List.mem_of_getElem? hx)
      have HS : Hid (be (ts.take (k + 1)) = be (ts.take k) * 256 + x) := by
        show _ = _
        rw [take_snoc' ts k x hx, be_snoc]
      obtain ⟨s0, s1⟩ := be_small (ts.take k) k (by omega) (by rw [List.length_take, HTL.out]; omega) (fun y hy => HTU.out y (List.mem_of_mem_take hy))
      obtain ⟨x0, x1⟩ := hx1
      have hcell := HC.out _ x hxy
      clear hx hxy
      generalize be (ts.take k) = a at *
      cases big
      case' false =>
        simp only [Bool.false_eq_true, if_false] at hcell
        have hK : (m : Int) - 1 - k = ((m - 1 - k : Nat) : Int) := by omega
        have hK2 : m - 1 - k < n := by omega
        generalize m - 1 - k = K at *
      case' true =>
        simp only [if_true] at hcell
      all_goals
        go_wp2
        go_round
        case rel => exact ⟨k + 1, by omega, by go_num, by rw [HS.out]⟩
        case measure => simp [intOf]; omega
    · obtain rfl : k = m := by omega
      have HTT : Hid (ts.take k = ts) := by show _ = _; rw [List.take_of_length_le (by rw [HTL.out]; exact Nat.le_refl _)]
      have hbel := (Below.refl w.heap.size w).alloc (Nat.le_refl _) (.cells #[] 5)
      have ho := Own.made (e := 5) (size := 1) w (Nat.le_refl _) #[] 0 0 (by decide) (by decide) rfl
      by_cases hck : c = k
      · obtain rfl : n = k := by omega
        subst hck
        obtain rfl : zs = [] := List.eq_nil_of_length_eq_zero (by rw [HZ.out]; omega)
        go_wp2_with (at_builtin; refine wpList_app _ rfl (.tmp 39) (.tmp 42) 25 rfl w.heap.size 5 (.int .u8 0) 1 1 Try.underlying25 info5 rfl (by decide) _ 0 0 [] rfl ho 0 _ 0 _ [] rfl rfl Rd.nil (by intro u h; cases h) (by unfold maxLen; omega) (by omega) (by simp) ?_; intro A' c' w1 hown hg hbk)
        go_ret3
        rw [HTT.out]
        exact ⟨A', c', by rw [HT.out]; rfl, hown, bel_app hbel ho (Nat.le_refl _) hg⟩
      · have hr' := hr2.al (.cells #[] 5)
        go_wp2_with (at_builtin; refine wpList_app _ rfl (.tmp 39) (.tmp 42) 25 rfl w.heap.size 5 (.int .u8 0) 1 1 Try.underlying25 info5 rfl (by decide) _ 0 0 [] rfl ho _ (some ⟨b, o + k, none⟩) (n - k) (c - k) _ rfl (by simp [HZ.out]) hr' (u8s_one _) (by unfold maxLen; omega) (by omega) (by simp) ?_; intro A' c' w1 hown hg hbk)
        go_ret3
        simp only [Nat.zero_add, List.nil_append] at hown
        rw [HTT.out, ← HZ.out]
        rw [← HZ.out] at hown
        exact ⟨A', c', by rw [HT.out, HZ.out]; rfl, hown, bel_app hbel ho (Nat.le_refl _) hg⟩
end Go.Proofs.Ytmcmlglacblkiaa
