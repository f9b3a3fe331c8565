/- num.Take: the number that bytes begin with, and the others. -/
import Derived.Test.YtmcmlglacblkiaaNum0
import Derived.Test.YtmcmlglacblkiaaSl
namespace Go.Proofs.Ytmcmlglacblkiaa
open Go.RowKit
set_option linter.unusedVariables false
set_option linter.unusedSimpArgs false
/-- Bytes as a number, the highest first. -/
def be (xs : List Int) : Int := xs.foldl (fun a x => a * 256 + x) 0
def takeB (xs : List Int) (big : Bool) : Int := if big then be xs else be xs.reverse
theorem be_snoc (xs : List Int) (x : Int) : be (xs ++ [x]) = be xs * 256 + x := by simp [be]
theorem be_bd' : ∀ (ys : List Int), (∀ x ∈ ys, 0 ≤ x ∧ x < 256) → 0 ≤ be ys.reverse ∧ be ys.reverse < (256 : Int) ^ ys.length
  | [], _ => by simp [be]
  | y :: ys, h => by
    have h1 := be_bd' ys (fun x hx => h x (by simp [hx]))
    have h2 := h y (by simp)
    rw [List.reverse_cons, be_snoc, List.length_cons, Int.pow_succ]
    omega
theorem be_bd (xs : List Int) (h : ∀ x ∈ xs, 0 ≤ x ∧ x < 256) : 0 ≤ be xs ∧ be xs < (256 : Int) ^ xs.length := by
  have := be_bd' xs.reverse (fun x hx => h x (by simpa using hx))
  simpa using this
theorem be_small (xs : List Int) (k : Nat) (hk : k ≤ 7) (hl : xs.length = k) (h : ∀ x ∈ xs, 0 ≤ x ∧ x < 256) : 0 ≤ be xs ∧ be xs ≤ 72057594037927935 := by
  obtain ⟨h0, h1⟩ := be_bd xs h
  rw [hl] at h1
  have h2 : (256 : Int) ^ k ≤ (256 : Int) ^ 7 := by
    obtain ⟨j, hj⟩ : ∃ j, 7 = k + j := ⟨7 - k, by omega⟩
    rw [hj, Int.pow_add]
    have h3 : (0 : Int) < (256 : Int) ^ k := Int.pow_pos (by decide)
    have h4 : (0 : Int) < (256 : Int) ^ j := Int.pow_pos (by decide)
    have := Int.mul_le_mul_of_nonneg_left (show (1 : Int) ≤ (256 : Int) ^ j by omega) (Int.le_of_lt h3)
    rwa [Int.mul_one] at this
  rw [show (256 : Int) ^ 7 = 72057594037927936 by decide] at h2
  omega
theorem or_low (a x : Int) (h0 : 0 ≤ a) (h1 : a ≤ 72057594037927935) (h2 : 0 ≤ x) (h3 : x < 256) : bits .or .u64 (a * 256) x = a * 256 + x := by
  obtain ⟨n, rfl⟩ := Int.eq_ofNat_of_zero_le h0
  obtain ⟨y, rfl⟩ := Int.eq_ofNat_of_zero_le h2
  rw [show ((n : Int) * 256) = ((2 ^ 8 * n : Nat) : Int) by omega, u64_or_nat _ _ (by omega) (by omega), ← Nat.two_pow_add_eq_or_of_lt (by omega)]
  omega
theorem take_snoc' (zs : List Int) (k : Nat) (x : Int) (h : zs[k]? = some x) : zs.take (k + 1) = zs.take k ++ [x] := by
  obtain ⟨hl, rfl⟩ := List.getElem?_eq_some_iff.1 h
  exact List.take_succ_eq_append_getElem hl
theorem clone_n (A : Option Addr) (n c : Nat) (xs : List Int) (w : World) (hx : xs.length = n) (hr : Rd w w.heap.size A (u8s xs)) (hA : A = none → n = 0 ∧ c = 0) (hl : n ≤ 1000000) :
    Calls Try.prog 36 #[.slice A n c] w fun e w' => ∃ A' c', e = .returned (.slice A' n c') ∧ Own w' w.heap.size 5 1 A' n c' (u8s xs) ∧ Below w.heap.size w w' := by
  have := clone_any A n c xs w hx hr hA hl
  subst hx
  exact this
/-- A number, bytes of the call's own, no error. -/
def RetT (w : World) (v : Int) (xs : List Int) (e : Ending) (w' : World) : Prop := ∃ A c, e = .returned (.tuple #[.int .u64 v, .slice A xs.length c, .int .i64 0]) ∧ Own w' w.heap.size 5 1 A xs.length c (u8s xs) ∧ Below w.heap.size w w'
theorem take_no (A : Option Addr) (n c : Nat) (wide : Int) (big : Bool) (w : World) (hw : isW wide = false) :
    Calls Try.prog 26 #[.slice A n c, .int .i64 wide, .bool big] w fun e w' => e = .returned (.tuple #[.int .u64 0, .slice none 0 0, .int .i64 1]) ∧ w = w' := by
  have HW := Lib.hid hw
  clear hw
  go_enter Try.func26, Try.ntmps26
  go_wp2_with (go_at_call 32; refine (width_any _ _).mono ?_; rw [HW.out]; rintro e w' ⟨rfl, rfl⟩)
  go_ret3
  exact ⟨rfl, rfl⟩
theorem take_short (A : Option Addr) (n c : Nat) (wide : Int) (big : Bool) (w : World) (hw : isW wide = true) (hn : (n : Int) < wide) :
    Calls Try.prog 26 #[.slice A n c, .int .i64 wide, .bool big] w fun e w' => e = .returned (.tuple #[.int .u64 0, .slice none 0 0, .int .i64 5]) ∧ w = w' := by
  have HW := Lib.hid hw
  clear hw
  go_enter Try.func26, Try.ntmps26
  go_wp2_with (go_at_call 32; refine (width_any _ _).mono ?_; rw [HW.out]; rintro e w' ⟨rfl, rfl⟩)
  go_ret3
  exact ⟨rfl, rfl⟩
set_option maxHeartbeats 2000000 in
theorem take_any (A : Option Addr) (n c : Nat) (xs : List Int) (m : Nat) (big : Bool) (w : World) (hw : isW m = true) (hmn : m ≤ n) (hx : xs.length = n) (hr : Rd w w.heap.size A (u8s xs)) (hn : n ≤ c) (hl : n ≤ 100000) (hc : c ≤ maxLen) (hu : ∀ x ∈ xs, 0 ≤ x ∧ x < 256) :
    Calls Try.prog 26 #[.slice A n c, .int .i64 m, .bool big] w (RetT w (takeB (xs.take m) big) (xs.drop m)) := by
  unfold maxLen at hc
  have hm := isW_cases hw
  have HW := Lib.hid hw
  have hm8 : m ≤ 8 := by omega
  have hm1 : 1 ≤ m := by omega
  have hmn' : (m : Int) ≤ n := by omega
  obtain ⟨b, o, rfl, -, -⟩ := id hr (by intro h; have h' : xs = [] := (by simpa using h); rw [h'] at hx; simp at hx; omega)
  have hr1 : Rd w w.heap.size (some ⟨b, o, none⟩) (u8s (xs.take m)) := by rw [show u8s (xs.take m) = (u8s xs).take m from List.map_take]; exact hr.take m
  have hr2 : Rd w w.heap.size (some ⟨b, o + m, none⟩) (u8s (xs.drop m)) := fun hne => by
    obtain ⟨b', o', e, hb, hcc⟩ := hr (by intro h; apply hne; have h' : xs = [] := (by simpa using h); rw [h']; simp)
    simp only [Option.some.injEq, Addr.mk.injEq, and_true] at e
    obtain ⟨rfl, rfl⟩ := e
    refine ⟨b, o + m, rfl, hb, fun i u hu => ?_⟩
    rw [Nat.add_assoc]
    refine hcc (m + i) u ?_
    rw [show u8s (xs.drop m) = (u8s xs).drop m from List.map_drop, List.getElem?_drop] at hu
    exact hu
  have hy : (xs.take m).length = m := by simp; omega
  have hz : (xs.drop m).length = n - m := by simp; omega
  have hu1 : ∀ x ∈ xs.take m, 0 ≤ x ∧ x < 256 := fun x hx => hu x (List.mem_of_mem_take hx)
  have hw0 : w.heap.size ≤ w.heap.size := Nat.le_refl _
  clear hw hx hm hr hu
  generalize xs.take m = ys at *
  generalize xs.drop m = zs at *
  have HY := Lib.hid hy
  have HZ := Lib.hid hz
  clear hy hz
  -- the bytes, as they are taken
  obtain ⟨ts, ht⟩ : ∃ ts, (if big = true then ys else ys.reverse) = ts := ⟨_, rfl⟩
  have HT : Hid (takeB ys big = be ts) := by rw [← ht]; cases big <;> rfl
  have htl : ts.length = m := by rw [← ht]; cases big <;> simp [HY.out]
  have htu : ∀ x ∈ ts, 0 ≤ x ∧ x < 256 := fun x hx => hu1 x (by rw [← ht] at hx; cases big <;> simpa using hx)
  have HTL := Lib.hid htl
  have HTU := Lib.hid htu
  have HR := Lib.hid ht
  clear htl htu hu1 ht
  go_enter Try.func26, Try.ntmps26
  go_wp2_with (go_at_call 32; refine (width_any _ _).mono ?_; rw [HW.out]; rintro e w' ⟨rfl, rfl⟩)
  refine (clone_n (some ⟨b, o, none⟩) m c ys _ HY.out hr1 (by intro h; cases h) (by omega)).mono ?_
  rintro e w1 ⟨A1, c1, rfl, hown, hb1⟩
  have hz1 := hb1.size
  cases big
  case' false =>
    go_wp2_with fail
    refine (reverse_any w.heap.size A1 m c1 ys w1 HY.out hown (by unfold maxLen; omega)).mono ?_
    rintro e w2 ⟨rfl, hown2, hg2⟩
    have hb3 := bel_app hb1 hown (Nat.le_refl _) hg2
    have hown3 : Own w2 w.heap.size 5 1 A1 m c1 (u8s ts) := by
      have := HR.out
      simp only [Bool.false_eq_true, if_false] at this
      rw [← this]; exact hown2
    clear hown hown2 hg2 hb1 hz1
  case' true =>
    have hb3 := hb1
    have hown3 : Own w1 w.heap.size 5 1 A1 m c1 (u8s ts) := by
      have := HR.out
      simp only [if_true] at this
      rw [← this]; exact hown
    clear hown hb1 hz1
    rename World => w2
  all_goals
    obtain ⟨g1, o1, rfl⟩ : ∃ g1 o1, A1 = some ⟨g1, o1, none⟩ := by
      cases A1 with
      | none => have h1 := hown3.2.2.2.1 rfl; have h2 := hown3.2.1; omega
      | some a => obtain ⟨g, off, cur, rfl, -⟩ := hown3.2.2.2.2 a rfl; exact ⟨g, off, rfl⟩
    have HC := Lib.hid (fun k (x : Int) (h : ts[k]? = some x) => hown3.cells k (.int .u8 x) (by rw [List.getElem?_map, h]; rfl))
    have hz3 := hb3.size
    clear hown3 HR hw0
    go_wp2_with fail
    go_loop [10, 32] (fun v i => ∃ k : Nat, k ≤ m ∧ i = .int .i64 k ∧ v = .int .u64 (be (ts.take k))) (fun _ i => m - (intOf i).toNat)
    case atStart => exact ⟨0, Nat.zero_le _, rfl, rfl⟩
    case round =>
      obtain ⟨k, hk, rfl, rfl⟩ := hrel
      by_cases hlt : k < m
      · have hlt' : (k : Int) < m := by omega
        obtain ⟨x, hx⟩ : ∃ x, ts[k]? = some x := ⟨_, List.getElem?_eq_getElem (by rw [HTL.out]; exact hlt)⟩
        have hcell := HC.out k x hx
        have hx1 := HTU.out x (List.mem_of_getElem? hx)
        have HS : Hid (be (ts.take (k + 1)) = be (ts.take k) * 256 + x) := by
          show _ = _
          rw [take_snoc' ts k x hx, be_snoc]
        obtain ⟨s0, s1⟩ := be_small (ts.take k) k (by omega) (by rw [List.length_take, HTL.out]; omega) (fun y hy => HTU.out y (List.mem_of_mem_take hy))
        obtain ⟨x0, x1⟩ := hx1
        clear hx
        generalize be (ts.take k) = a at *
        have HO := Lib.hid (or_low a x s0 s1 x0 x1)
        go_wp2
        go_round
        case rel => exact ⟨k + 1, by omega, by go_num, by rw [HO.out, HS.out]⟩
        case measure => simp [intOf]; omega
      · obtain rfl : k = m := by omega
        have HTT : Hid (ts.take k = ts) := by show _ = _; rw [List.take_of_length_le (by rw [HTL.out]; exact Nat.le_refl _)]
        by_cases hck : c = k
        · obtain rfl : n = k := by omega
          subst hck
          obtain rfl : zs = [] := List.eq_nil_of_length_eq_zero (by rw [HZ.out]; omega)
          go_wp2_with fail
          refine (clone_n _ 0 _ [] _ rfl Rd.nil (by intro h; cases h) (by omega)).mono ?_
          rintro e w4 ⟨A4, c4, rfl, hown4, hb4⟩
          go_wp2_with fail
          go_ret3
          rw [HTT.out]
          exact ⟨A4, c4, by rw [HT.out]; rfl, hown4.more (by omega), bel2 hb3 hb4⟩
        · have HL := HZ.out
          clear HL
          go_wp2_with fail
          refine (clone_n (some ⟨b, o + k, none⟩) (n - k) (c - k) zs _ HZ.out ((hr2.below hb3).more hz3) (by intro h; cases h) (by omega)).mono ?_
          rintro e w4 ⟨A4, c4, rfl, hown4, hb4⟩
          go_wp2_with fail
          go_ret3
          rw [HTT.out, ← HZ.out]
          rw [← HZ.out] at hown4
          exact ⟨A4, c4, by rw [HT.out]; rfl, hown4.more (by omega), bel2 hb3 hb4⟩
end Go.Proofs.Ytmcmlglacblkiaa
