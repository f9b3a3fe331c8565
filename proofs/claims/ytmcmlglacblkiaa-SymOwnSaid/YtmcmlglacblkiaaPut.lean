/- num.Put: a number's bytes behind bytes. -/
import Derived.Test.YtmcmlglacblkiaaNum0
import Derived.Test.YtmcmlglacblkiaaSl
namespace Go.Proofs.Ytmcmlglacblkiaa
open Go.RowKit
set_option linter.unusedVariables false
set_option linter.unusedSimpArgs false
/-- The bytes of a number, the lowest first. -/
def le (v : Int) (k : Nat) : List Int := (List.range k).map fun i => v / (256 : Int) ^ i % 256
def putB (v : Int) (n : Nat) (big : Bool) : List Int := if big then (le v n).reverse else le v n
theorem le_succ (v : Int) (k : Nat) : le v k ++ [v / (256 : Int) ^ k % 256] = le v (k + 1) := by simp [le, List.range_succ]
theorem le_len (v : Int) (k : Nat) : (le v k).length = k := by simp [le]
theorem putB_len (v : Int) (k : Nat) (b : Bool) : (putB v k b).length = k := by cases b <;> simp [putB, le_len]
theorem div_succ (v : Int) (k : Nat) : v / (256 : Int) ^ k / 256 = v / (256 : Int) ^ (k + 1) := by
  rw [Int.ediv_ediv_of_nonneg (Int.pow_nonneg (by decide)), Int.pow_succ]
theorem div_bd (v : Int) (k : Nat) (h0 : 0 ≤ v) (h1 : v < 18446744073709551616) : 0 ≤ v / (256 : Int) ^ k ∧ v / (256 : Int) ^ k < 18446744073709551616 := by
  have hp : (0 : Int) < (256 : Int) ^ k := Int.pow_pos (by decide)
  refine ⟨Int.ediv_nonneg h0 (Int.le_of_lt hp), ?_⟩
  have := Int.ediv_le_self ((256 : Int) ^ k) h0
  omega
theorem u8s_snoc (xs : List Int) (x : Int) : u8s xs ++ [.int .u8 x] = u8s (xs ++ [x]) := by simp
def RetP (w : World) (xs : List Int) (e : Ending) (w' : World) : Prop := ∃ A c, e = .returned (.tuple #[.slice A xs.length c, .int .i64 0]) ∧ Own w' w.heap.size 5 1 A xs.length c (u8s xs) ∧ Below w.heap.size w w'
theorem put_no (A : Option Addr) (n c : Nat) (v wide : Int) (big : Bool) (w : World) (hw : isW wide = false) :
    Calls Try.prog 23 #[.slice A n c, .int .u64 v, .int .i64 wide, .bool big] w fun e w' => e = .returned (.tuple #[.slice none 0 0, .int .i64 1]) ∧ w = w' := by
  have HW := Lib.hid hw
  clear hw
  go_enter Try.func23, Try.ntmps23
  go_wp2_with (go_at_call 32; refine (width_any _ _).mono ?_; rw [HW.out]; rintro e w' ⟨rfl, rfl⟩)
  go_ret2
  exact ⟨rfl, rfl⟩
set_option maxHeartbeats 2000000 in
theorem put_any (A : Option Addr) (n c : Nat) (xs : List Int) (v : Int) (m : Nat) (big : Bool) (w : World) (hw : isW m = true) (hx : xs.length = n) (hr : Rd w w.heap.size A (u8s xs)) (hl : n ≤ 100000) (h0 : 0 ≤ v) (h1 : v < 18446744073709551616) :
    Calls Try.prog 23 #[.slice A n c, .int .u64 v, .int .i64 m, .bool big] w (RetP w (xs ++ putB v m big)) := by
  have hm : m ≤ 8 := by have := isW_cases hw; omega
  have HW := Lib.hid hw
  have HX := Lib.hid hx
  have HL : Hid (∀ b, (xs ++ putB v m b).length = n + m) := fun b => by rw [List.length_append, hx, putB_len]
  clear hw hx
  go_enter Try.func23, Try.ntmps23
  go_wp2_with (go_at_call 32; refine (width_any _ _).mono ?_; rw [HW.out]; rintro e w' ⟨rfl, rfl⟩)
  have e0 : v = v / (256 : Int) ^ 0 := by simp
  have E0 := Lib.hid e0
  clear e0
  go_loopw [1, 10, 15] (fun y s i wr => ∃ (k : Nat) (B : Option Addr) (d : Nat), k ≤ m ∧ i = .int .i64 k ∧ y = .int .u64 (v / (256 : Int) ^ k) ∧ s = .slice B k d ∧ Own wr w.heap.size 5 1 B k d (u8s (le v k)) ∧ Below w.heap.size w wr) (fun _ _ i _ => m - (intOf i).toNat)
  case atStart => exact ⟨0, none, 0, Nat.zero_le _, rfl, by rw [← E0.out], rfl, Own.nil _ _ _ _, Below.refl _ _⟩
  case round =>
    obtain ⟨k, B, d, hk, rfl, rfl, rfl, hown, hbel⟩ := hrel
    have hz := hbel.size
    by_cases hlt : k < m
    · have hlt' : (k : Int) < m := by omega
      obtain ⟨b0, b1⟩ := div_bd v k h0 h1
      have HD := Lib.hid (div_succ v k)
      have HS := Lib.hid (le_succ v k)
      go_wp2_with (at_builtin; refine wpList_app _ rfl (.tmp 17) (.tmp 20) 25 rfl w.heap.size 5 (.int .u8 0) 1 1 Try.underlying25 info5 rfl (by decide) B k d _ rfl (hown.alloc _) _ _ 1 1 _ rfl rfl (Rd.one wr (.int .u8 _) 5) (one_one rfl) (by unfold maxLen; omega) (by omega) (by simp; omega) ?_; intro A' c' w' hown' hg hbk)
      go_roundw
      case rel =>
        refine ⟨k + 1, A', c', by omega, by go_num, by rw [HD.out], rfl, ?_, bel_app (hbel.alloc hz _) (hown.alloc _) (Nat.le_refl _) hg⟩
        rw [u8s_snoc, HS.out] at hown'
        exact hown'
      case measure => simp [intOf]; omega
    · obtain rfl : k = m := by omega
      cases big
      · go_wp2_with fail
        refine (concat_any _ 0 2 A n c xs B k d (le v k) _ HX.out (le_len v k) ((hr.below hbel).more hz |>.al _) (hown.rd.al _) ?_ ?_ (by omega) (by omega)).mono ?_
        · simp
        · simp
        rintro e w2 ⟨A2, c2, rfl, hown2, hb2⟩
        go_wp2_with fail
        go_ret2
        refine ⟨A2, c2, by simp [putB], ?_, hbel.trans ((bel1 hb2).mono hz)⟩
        exact hown2.more (by simp; omega)
      · go_wp2_with fail
        refine (reverse_any w.heap.size B k d (le v k) wr (le_len v k) hown (by unfold maxLen; omega)).mono ?_
        rintro e w1 ⟨rfl, hown1, hg1⟩
        have hbel1 := bel_app hbel hown (Nat.le_refl _) hg1
        have hz1 := hbel1.size
        go_wp2_with fail
        refine (concat_any _ 0 2 A n c xs B k d (le v k).reverse _ HX.out (by rw [List.length_reverse, le_len]) ((hr.below hbel1).more hz1 |>.al _) (hown1.rd.al _) ?_ ?_ (by omega) (by omega)).mono ?_
        · simp
        · simp
        rintro e w2 ⟨A2, c2, rfl, hown2, hb2⟩
        go_wp2_with fail
        go_ret2
        refine ⟨A2, c2, by simp [putB], ?_, hbel1.trans ((bel1 hb2).mono hz1)⟩
        exact hown2.more (by simp; omega)
end Go.Proofs.Ytmcmlglacblkiaa
