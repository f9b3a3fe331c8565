/- num.Put, and what it calls. -/
import Derived.Test.YteecgdbicokgoaaKit
import Derived.Lib.AppendZeros
namespace Go.Proofs.Yteecgdbicokgoaa
open Go.RowKit
set_option linter.unusedVariables false
set_option linter.unusedSimpArgs false
set_option maxRecDepth 100000
def isW (n : Int) : Bool := n == 1 || n == 2 || n == 4 || n == 8
theorem isW_cases {n : Int} (h : isW n = true) : n = 1 ∨ n = 2 ∨ n = 4 ∨ n = 8 := by simp [isW] at h; omega
set_option maxHeartbeats 1000000 in
theorem width_any (n : Int) (w : World) : Calls Try.prog 105 #[.int .i64 n] w fun e w' => e = .returned (.bool (isW n)) ∧ w = w' := by
  by_cases h1 : n < 1
  · have e : isW n = false := by simp [isW]; omega
    rw [e]
    go_enter Try.func105, Try.ntmps105
    go_wp2
    go_ret
    exact ⟨rfl, rfl⟩
  · by_cases h8 : 8 < n
    · have e : isW n = false := by simp [isW]; omega
      have h1' : 1 ≤ n := by omega
      rw [e]
      go_enter Try.func105, Try.ntmps105
      go_wp2
      go_ret
      exact ⟨rfl, rfl⟩
    · have : n = 1 ∨ n = 2 ∨ n = 3 ∨ n = 4 ∨ n = 5 ∨ n = 6 ∨ n = 7 ∨ n = 8 := by omega
      rcases this with rfl | rfl | rfl | rfl | rfl | rfl | rfl | rfl
      all_goals
        go_enter Try.func105, Try.ntmps105
        go_wp2
        go_ret
        exact ⟨ret_bool (by decide), rfl⟩
theorem info5 : (Try.prog.info? 5).map (fun i => (i.zero, i.size, i.bytes)) = some (some (.int .u8 0), 1, 1) := by kernel_rfl

/-- A slice of the call's own with nothing in it, and room. -/
def RetG (w : World) (e : Ending) (w' : World) : Prop := ∃ A c, e = .returned (.slice A 0 c) ∧ Own w' w.heap.size 5 1 A 0 c [] ∧ Below w.heap.size w w'
set_option maxHeartbeats 1000000 in
theorem grow_any (n : Nat) (w : World) (hn : n ≤ 1000000) : Calls Try.prog 62 #[.slice none 0 0, .int .i64 n] w (RetG w) := by
  by_cases h : n = 0
  · subst h
    go_enter Try.func62, Try.ntmps62
    go_wp2
    go_ret
    exact ⟨none, 0, rfl, Own.nil _ _ _ _, Below.refl _ _⟩
  · have h0 : 0 < n := by omega
    obtain ⟨i, hi, hz, hsz, hby⟩ := info_parts info5
    have hr := Lib.run_append_nil_zeros (P := Try.prog) w 22 3 22 5 i (.int .u8 0) .i64 .i64 Try.underlying22 Try.underlying3 hi hz n h0 (by rw [hsz]; decide) (by omega) (by rw [hby]; omega)
    have hge := grownCap_ge w n 0 5
    have hcm : grownCap w n 0 5 ≤ maxLen := grownCap_le_maxLen w n 0 5 (by unfold maxLen; omega)
    generalize hC : grownCap w n 0 5 = C at *
    clear hC
    go_enter Try.func62, Try.ntmps62
    go_wp2_with (at_builtin; refine Lib.wpList_append_run _ rfl (.tmp 20) (.tmp 21) 22 3 rfl _ _ rfl rfl _ _ hr ?_)
    go_ret
    refine ⟨_, C, rfl, Own.made (e := 5) (size := 1) w.drew (Nat.le_refl _) _ 0 C (Nat.zero_le _) hcm ?_, ((Below.refl w.heap.size w).drew).alloc (Nat.le_refl _) _⟩
    simp [size_zeroCells, Value.cells]
    omega

/-- Bytes of which the outer ones, k on each side, are turned. -/
def rvL (xs : List Int) (k : Nat) : List Int := (List.range xs.length).map fun i => if i < k ∨ xs.length - k ≤ i then xs.getD (xs.length - 1 - i) 0 else xs.getD i 0
theorem rvL_len (xs : List Int) (k : Nat) : (rvL xs k).length = xs.length := by simp [rvL]
theorem rvL_zero (xs : List Int) : rvL xs 0 = xs := by
  apply List.ext_getElem
  · simp [rvL]
  · intro i h1 h2
    simp only [rvL_len] at h1
    simp [rvL, h1]
    intro h; omega
theorem rvL_get (xs : List Int) (k i : Nat) (hi : i < xs.length) : (rvL xs k)[i]? = some (if i < k ∨ xs.length - k ≤ i then xs.getD (xs.length - 1 - i) 0 else xs.getD i 0) := by
  simp [rvL, hi]
theorem rvL_rev (xs : List Int) (k m : Nat) (h : k + m + 1 = xs.length) (hk : m ≤ k) : rvL xs k = xs.reverse := by
  apply List.ext_getElem?
  intro i
  rcases Nat.lt_or_ge i xs.length with hi | hi
  · rw [rvL_get _ _ _ hi, List.getElem?_reverse hi]
    rw [List.getElem?_eq_getElem (by omega)]
    congr 1
    by_cases hc : i < k ∨ xs.length - k ≤ i
    · rw [if_pos hc, List.getD_eq_getElem?_getD, List.getElem?_eq_getElem (by omega)]; rfl
    · rw [if_neg hc]
      have : xs.length - 1 - i = i := by omega
      simp only [this]
      rw [List.getD_eq_getElem?_getD, List.getElem?_eq_getElem (by omega)]; rfl
  · rw [List.getElem?_eq_none (by rw [rvL_len]; omega), List.getElem?_eq_none (by simp; omega)]
theorem rvL_step (xs : List Int) (k m : Nat) (h : k + m + 1 = xs.length) (hk : k < m) : ((rvL xs k).set k (xs.getD m 0)).set m (xs.getD k 0) = rvL xs (k + 1) := by
  apply List.ext_getElem?
  intro i
  rcases Nat.lt_or_ge i xs.length with hi | hi
  · rw [rvL_get _ _ _ hi]
    by_cases h1 : m = i
    · subst h1
      rw [List.getElem?_set_self (by rw [List.length_set, rvL_len]; omega), if_pos (by omega)]
      rw [show xs.length - 1 - m = k by omega]
    · rw [List.getElem?_set_ne h1]
      by_cases h2 : k = i
      · subst h2
        rw [List.getElem?_set_self (by rw [rvL_len]; omega), if_pos (by omega)]
        rw [show xs.length - 1 - k = m by omega]
      · rw [List.getElem?_set_ne h2, rvL_get _ _ _ hi]
        congr 1
        by_cases hc : i < k ∨ xs.length - k ≤ i
        · rw [if_pos hc, if_pos (by omega)]
        · rw [if_neg hc, if_neg (by omega)]
  · rw [List.getElem?_eq_none (by rw [List.length_set, List.length_set, rvL_len]; omega), List.getElem?_eq_none (by rw [rvL_len]; omega)]
theorem grown_refl (w : World) (r : Option Nat) : w.grownBy w r := ⟨rfl, rfl, rfl, Nat.le_refl _, fun _ _ _ => rfl⟩
theorem grown_set {w w' : World} {g : Nat} (h : w.grownBy w' (some g)) (o : Nat) (u : Value) : w.grownBy (w'.setCell ⟨g, o, none⟩ u) (some g) :=
  ⟨h.os, h.tape, h.output, Nat.le_trans h.size (by simp [World.setCell]), fun k hk hne => (Below.heap_setCell w' _ _ k (fun e => hne (by simpa using e))).trans (h.block k hk hne)⟩
theorem grown_drew {w w' : World} {r : Option Nat} (h : w.grownBy w' r) : w.grownBy w'.drew r := ⟨h.os, h.tape, h.output, h.size, h.block⟩
theorem u8s_set (xs : List Int) (k : Nat) (x : Int) : (u8s xs).set k (.int .u8 x) = u8s (xs.set k x) := by simp [List.map_set]

set_option maxHeartbeats 1000000 in
theorem reverse_any (base : Nat) (A : Option Addr) (n c : Nat) (xs : List Int) (w : World) (hx : xs.length = n) (hown : Own w base 5 1 A n c (u8s xs)) (hl : n ≤ maxLen) :
    Calls Try.prog 106 #[.slice A n c] w fun e w' => e = .returned (.tuple #[]) ∧ Own w' base 5 1 A n c (u8s xs.reverse) ∧ w.grownBy w' (blkOf A) := by
  unfold maxLen at hl
  by_cases h0 : n = 0
  · subst h0
    obtain rfl : xs = [] := List.eq_nil_of_length_eq_zero hx
    go_enter Try.func106, Try.ntmps106
    go_wp2
    go_rounds 1
    go_end0
    exact ⟨rfl, hown, grown_refl _ _⟩
  · obtain ⟨a, rfl⟩ : ∃ a, A = some a := by
      cases A with
      | none => have := hown.2.2.2.1 rfl; have := hown.2.1; omega
      | some a => exact ⟨a, rfl⟩
    obtain ⟨g, off, cur, rfl, -⟩ := hown.2.2.2.2 a rfl
    have H0 := Lib.hid (rvL_zero xs)
    have hz : Own w base 5 1 (some ⟨g, off, none⟩) n c (u8s (rvL xs 0)) := by rw [H0.out]; exact hown
    have HX := Lib.hid hx
    clear hx hown
    obtain ⟨m0, hm0⟩ : ∃ m0 : Nat, m0 + 1 = n := ⟨n - 1, by omega⟩
    have hm1 : (n : Int) - 1 = (m0 : Int) := by omega
    go_enter Try.func106, Try.ntmps106
    go_wp2
    go_loopw [2, 3] (fun i j wr => ∃ k m : Nat, k + m + 1 = n ∧ i = .int .i64 k ∧ j = .int .i64 m ∧ Own wr base 5 1 (some ⟨g, off, none⟩) n c (u8s (rvL xs k)) ∧ w.grownBy wr (some g)) (fun _ j _ => (intOf j).toNat)
    case atStart => exact ⟨0, m0, by omega, rfl, rfl, hz, grown_refl _ _⟩
    case round =>
      obtain ⟨k, m, hkm, rfl, rfl, ho, hg⟩ := hrel
      by_cases hlt : k < m
      · have hlt' : (k : Int) < (m : Int) := by omega
        have hkn : (k : Int) < (n : Int) := by omega
        have hmn : (m : Int) < (n : Int) := by omega
        have c1 : wr.cell? ⟨g, off + k, none⟩ = some (.int .u8 (xs.getD k 0)) := ho.cells k _ (by
          rw [List.getElem?_map, rvL_get _ _ _ (by rw [HX.out]; omega), if_neg (by rw [HX.out]; omega)]; rfl)
        have c2 : wr.cell? ⟨g, off + m, none⟩ = some (.int .u8 (xs.getD m 0)) := ho.cells m _ (by
          rw [List.getElem?_map, rvL_get _ _ _ (by rw [HX.out]; omega), if_neg (by rw [HX.out]; omega)]; rfl)
        have hf := ho.frozen
        have hne : ¬ off + k = off + m := by omega
        have hs := Lib.hid (rvL_step xs k m (by rw [HX.out]; omega) hlt)
        generalize xs.getD k 0 = x at *
        generalize xs.getD m 0 = y at *
        go_wp2
        go_region
        go_wp2
        refine ⟨⟨k + 1, m - 1, by omega, by go_num, by go_num, ?_, grown_drew (grown_set (grown_set hg _ _) _ _)⟩, by simp [intOf]; omega⟩
        have := ((ho.set_ k (by omega) (.int .u8 y)).set_ m (by omega) (.int .u8 x)).drew
        rw [u8s_set, u8s_set, hs.out] at this
        exact this
      · have he := Lib.hid (rvL_rev xs k m (by rw [HX.out]; omega) (by omega))
        go_wp2
        go_end0
        refine ⟨rfl, ?_, hg⟩
        rw [← he.out]
        exact ho


/-- New bytes of the call's own are handed back. -/
def RetB (w : World) (xs : List Int) (e : Ending) (w' : World) : Prop := ∃ A c, e = .returned (.slice A xs.length c) ∧ Own w' w.heap.size 5 1 A xs.length c (u8s xs) ∧ Below w.heap.size w w'
set_option maxHeartbeats 1000000 in
set_option maxHeartbeats 1000000 in
theorem concat_any (g o c : Nat) (A1 : Option Addr) (n1 c1 : Nat) (xs : List Int) (A2 : Option Addr) (n2 c2 : Nat) (ys : List Int) (w : World) (hx : xs.length = n1) (hy : ys.length = n2)
    (hr1 : Rd w w.heap.size A1 (u8s xs)) (hr2 : Rd w w.heap.size A2 (u8s ys)) (h1 : w.cell? ⟨g, o, none⟩ = some (.slice A1 n1 c1)) (h2 : w.cell? ⟨g, o + 1, none⟩ = some (.slice A2 n2 c2)) (hl1 : n1 ≤ 500000) (hl2 : n2 ≤ 500000) :
    Calls Try.prog 42 #[.slice (some ⟨g, o, none⟩) 2 c] w (RetB w (xs ++ ys)) := by
  have hgl := World.block_lt_of_cell? w _ h1
  have HX := Lib.hid hx
  have HY := Lib.hid hy
  have hs : (n1 : Int) + n2 = ((n1 + n2 : Nat) : Int) := by omega
  have hs' := Lib.hid hs
  clear hx hy hs
  go_enter Try.func42, Try.ntmps42
  go_wp2_with fail
  refine wp_loop_rounds 3 ?_
  rw [rounds_succ]
  go_wp2_with fail
  rw [rounds_succ]
  go_wp2_with fail
  rw [rounds_succ]
  go_wp2_with fail
  rw [hs'.out]
  refine (grow_any (n1 + n2) _ (by omega)).mono ?_
  rintro e w1 ⟨A', c', rfl, hown, hb⟩
  have hc1 : w1.cell? ⟨g, o, none⟩ = some (.slice A1 n1 c1) := (hb.cell (p := ⟨g, o, none⟩) hgl).trans h1
  have hc2 : w1.cell? ⟨g, o + 1, none⟩ = some (.slice A2 n2 c2) := (hb.cell (p := ⟨g, o + 1, none⟩) hgl).trans h2
  have r1 := hr1.below hb
  have r2 := hr2.below hb
  have hz := hb.size
  clear h1 h2 hs'
  go_wp2_with fail
  refine wp_loop_rounds 3 ?_
  rw [rounds_succ]
  go_wp2_with (at_builtin; refine wpList_app _ rfl (.tmp 31) (.tmp 32) 22 rfl w.heap.size 5 (.int .u8 0) 1 1 Try.underlying22 info5 rfl (by decide) A' 0 c' [] rfl hown _ A1 n1 c1 _ rfl (by simp [HX.out]) r1 (u8s_one _) (by unfold maxLen; omega) (by omega) hz ?_; intro A3 c3 w2 hown2 hg2 hbk2)
  simp only [Nat.zero_add, List.nil_append] at hown2
  have hb2 := bel_app hb hown (Nat.le_refl _) hg2
  have hc3 : w2.cell? ⟨g, o + 1, none⟩ = some (.slice A2 n2 c2) := (hb2.cell (p := ⟨g, o + 1, none⟩) hgl).trans ((hb.cell (p := ⟨g, o + 1, none⟩) hgl).symm.trans hc2)
  have r3 := hr2.below hb2
  have hz2 := hb2.size
  clear hc1 hc2 r1 r2
  rw [rounds_succ]
  go_wp2_with (at_builtin; refine wpList_app _ rfl (.tmp 31) (.tmp 32) 22 rfl w.heap.size 5 (.int .u8 0) 1 1 Try.underlying22 info5 rfl (by decide) A3 n1 c3 _ rfl hown2 _ A2 n2 c2 _ rfl (by simp [HY.out]) r3 (u8s_one _) (by unfold maxLen; omega) (by omega) hz2 ?_; intro A4 c4 w3 hown3 hg3 hbk3)
  rw [rounds_succ]
  go_wp2_with fail
  go_ret
  have el : (xs ++ ys).length = n1 + n2 := by simp [HX.out, HY.out]
  refine ⟨A4, c4, by rw [el]; rfl, ?_, bel_app hb2 hown2 (Nat.le_refl _) hg3⟩
  rw [el]
  simpa using hown3
/-- The bytes of a number, the lowest first. -/
def le (v : Int) (k : Nat) : List Int := (List.range k).map fun i => v / (256 : Int) ^ i % 256
def putB (v : Int) (n : Nat) (big : Bool) : List Int := if big then (le v n).reverse else le v n
theorem le_succ (v : Int) (k : Nat) : le v k ++ [v / (256 : Int) ^ k % 256] = le v (k + 1) := by simp [le, List.range_succ]
theorem le_len (v : Int) (k : Nat) : (le v k).length = k := by simp [le]
theorem putB_len (v : Int) (k : Nat) (b : Bool) : (putB v k b).length = k := by cases b <;> simp [putB, le_len]
theorem div_succ (v : Int) (k : Nat) : v / (256 : Int) ^ k / 256 = v / (256 : Int) ^ (k + 1) := by
  rw [Int.ediv_ediv_of_nonneg (Int.pow_nonneg (by decide)), Int.pow_succ]
theorem div_bd (v : Int) (k : Nat) (h0 : 0 ≤ v) (h1 : v < 18446744073709551616) : 0 ≤ v / (256 : Int) ^ k ∧ v / (256 : Int) ^ k < 18446744073709551616 := by
  have hp : (0 : Int) < (256 : Int) ^ k := Int.pow_pos (by decide)
  refine ⟨Int.ediv_nonneg h0 (Int.le_of_lt hp), ?_⟩
  have := Int.ediv_le_self ((256 : Int) ^ k) h0
  omega
theorem u8s_snoc (xs : List Int) (x : Int) : u8s xs ++ [.int .u8 x] = u8s (xs ++ [x]) := by simp
def RetP (w : World) (xs : List Int) (e : Ending) (w' : World) : Prop := ∃ A c, e = .returned (.tuple #[.slice A xs.length c, .int .i64 0]) ∧ Own w' w.heap.size 5 1 A xs.length c (u8s xs) ∧ Below w.heap.size w w'
theorem put_no (A : Option Addr) (n c : Nat) (v wide : Int) (big : Bool) (w : World) (hw : isW wide = false) :
    Calls Try.prog 75 #[.slice A n c, .int .u64 v, .int .i64 wide, .bool big] w fun e w' => e = .returned (.tuple #[.slice none 0 0, .int .i64 1]) ∧ w = w' := by
  have HW := Lib.hid hw
  clear hw
  go_enter Try.func75, Try.ntmps75
  go_wp2_with (go_at_call 105; refine (width_any _ _).mono ?_; rw [HW.out]; rintro e w' ⟨rfl, rfl⟩)
  go_ret2
  exact ⟨rfl, rfl⟩
set_option maxHeartbeats 2000000 in
theorem put_any (A : Option Addr) (n c : Nat) (xs : List Int) (v : Int) (m : Nat) (big : Bool) (w : World) (hw : isW m = true) (hx : xs.length = n) (hr : Rd w w.heap.size A (u8s xs)) (hl : n ≤ 100000) (h0 : 0 ≤ v) (h1 : v < 18446744073709551616) :
    Calls Try.prog 75 #[.slice A n c, .int .u64 v, .int .i64 m, .bool big] w (RetP w (xs ++ putB v m big)) := by
  have hm : m ≤ 8 := by have := isW_cases hw; omega
  have HW := Lib.hid hw
  have HX := Lib.hid hx
  have HL : Hid (∀ b, (xs ++ putB v m b).length = n + m) := fun b => by rw [List.length_append, hx, putB_len]
  clear hw hx
  go_enter Try.func75, Try.ntmps75
  go_wp2_with (go_at_call 105; refine (width_any _ _).mono ?_; rw [HW.out]; rintro e w' ⟨rfl, rfl⟩)
  have e0 : v = v / (256 : Int) ^ 0 := by simp
  have E0 := Lib.hid e0
  clear e0
  go_loopw [1, 10, 15] (fun y s i wr => ∃ (k : Nat) (B : Option Addr) (d : Nat), k ≤ m ∧ i = .int .i64 k ∧ y = .int .u64 (v / (256 : Int) ^ k) ∧ s = .slice B k d ∧ Own wr w.heap.size 5 1 B k d (u8s (le v k)) ∧ Below w.heap.size w wr) (fun _ _ i _ => m - (intOf i).toNat)
  case atStart => exact ⟨0, none, 0, Nat.zero_le _, rfl, by rw [← E0.out], rfl, Own.nil _ _ _ _, Below.refl _ _⟩
  case round =>
    obtain ⟨k, B, d, hk, rfl, rfl, rfl, hown, hbel⟩ := hrel
    have hz := hbel.size
    by_cases hlt : k < m
    · have hlt' : (k : Int) < m := by omega
      obtain ⟨b0, b1⟩ := div_bd v k h0 h1
      have HD := Lib.hid (div_succ v k)
      have HS := Lib.hid (le_succ v k)
      go_wp2_with (at_builtin; refine wpList_app _ rfl (.tmp 17) (.tmp 20) 22 rfl w.heap.size 5 (.int .u8 0) 1 1 Try.underlying22 info5 rfl (by decide) B k d _ rfl (hown.alloc _) _ _ 1 1 _ rfl rfl (Rd.one wr (.int .u8 _) 5) (one_one rfl) (by unfold maxLen; omega) (by omega) (by simp; omega) ?_; intro A' c' w' hown' hg hbk)
      go_roundw
      case rel =>
        refine ⟨k + 1, A', c', by omega, by go_num, by rw [HD.out], rfl, ?_, bel_app (hbel.alloc hz _) (hown.alloc _) (Nat.le_refl _) hg⟩
        rw [u8s_snoc, HS.out] at hown'
        exact hown'
      case measure => simp [intOf]; omega
    · obtain rfl : k = m := by omega
      cases big
      · go_wp2_with fail
        refine (concat_any _ 0 2 A n c xs B k d (le v k) _ HX.out (le_len v k) ((hr.below hbel).more hz |>.al _) (hown.rd.al _) ?_ ?_ (by omega) (by omega)).mono ?_
        · simp
        · simp
        rintro e w2 ⟨A2, c2, rfl, hown2, hb2⟩
        go_wp2_with fail
        go_ret2
        refine ⟨A2, c2, by simp [putB], ?_, hbel.trans ((bel1 hb2).mono hz)⟩
        exact hown2.more (by simp; omega)
      · go_wp2_with fail
        refine (reverse_any w.heap.size B k d (le v k) wr (le_len v k) hown (by unfold maxLen; omega)).mono ?_
        rintro e w1 ⟨rfl, hown1, hg1⟩
        have hbel1 := bel_app hbel hown (Nat.le_refl _) hg1
        have hz1 := hbel1.size
        go_wp2_with fail
        refine (concat_any _ 0 2 A n c xs B k d (le v k).reverse _ HX.out (by rw [List.length_reverse, le_len]) ((hr.below hbel1).more hz1 |>.al _) (hown1.rd.al _) ?_ ?_ (by omega) (by omega)).mono ?_
        · simp
        · simp
        rintro e w2 ⟨A2, c2, rfl, hown2, hb2⟩
        go_wp2_with fail
        go_ret2
        refine ⟨A2, c2, by simp [putB], ?_, hbel1.trans ((bel1 hb2).mono hz1)⟩
        exact hown2.more (by simp; omega)
end Go.Proofs.Yteecgdbicokgoaa
