/- FrameOrder: the digits of a Rank, and the closure that lists them. -/
import Derived.Test.YtegbffcimldjnaaLawRanks
namespace Go.Proofs.Ytegbffcimldjnaa
open Go.RowKit
set_option linter.unusedVariables false
set_option linter.unusedSimpArgs false
def dgt (R : Int) (k : Nat) : Int := R / (2 : Int) ^ (29 - k) % 2
def dgs (R : Int) (k : Nat) : List Int := (List.range k).map (dgt R)
theorem dgs_succ (R : Int) (k : Nat) : dgs R k ++ [dgt R k] = dgs R (k + 1) := by simp [dgs, List.range_succ]
theorem dgs_len (R : Int) (k : Nat) : (dgs R k).length = k := by simp [dgs]
theorem dgs_get (R : Int) (n k : Nat) (h : k < n) : (dgs R n)[k]? = some (dgt R k) := by simp [dgs, h]
theorem half (R : Int) (k : Nat) (hk : k < 30) : R / (2 : Int) ^ (30 - k) = R / (2 : Int) ^ (29 - k) / 2 := by
  rw [Int.ediv_ediv_of_nonneg (Int.pow_nonneg (by decide)), show 30 - k = (29 - k) + 1 by omega, Int.pow_succ]
theorem order_step (R S : Int) (k : Nat) (hk : k < 30) (he : R / (2 : Int) ^ (30 - k) = S / (2 : Int) ^ (30 - k)) (hd : dgt R k = dgt S k) : R / (2 : Int) ^ (30 - (k + 1)) = S / (2 : Int) ^ (30 - (k + 1)) := by
  rw [half R k hk, half S k hk] at he
  unfold dgt at hd
  rw [show 30 - (k + 1) = 29 - k by omega]
  omega
theorem order_cmp (R S : Int) (k : Nat) (hk : k < 30) (he : R / (2 : Int) ^ (30 - k) = S / (2 : Int) ^ (30 - k)) (hd : dgt R k ≠ dgt S k) : decide (R < S) = (dgt R k == 0) := by
  rw [half R k hk, half S k hk] at he
  unfold dgt at hd ⊢
  have hp : (0 : Int) ≤ (2 : Int) ^ (29 - k) := Int.pow_nonneg (by decide)
  have h1 : R ≤ S → R / (2 : Int) ^ (29 - k) ≤ S / (2 : Int) ^ (29 - k) := fun h => Int.ediv_le_ediv (Int.pow_pos (by decide)) h
  have h2 : S ≤ R → S / (2 : Int) ^ (29 - k) ≤ R / (2 : Int) ^ (29 - k) := fun h => Int.ediv_le_ediv (Int.pow_pos (by decide)) h
  generalize R / (2 : Int) ^ (29 - k) = X at *
  generalize S / (2 : Int) ^ (29 - k) = Y at *
  rw [Bool.eq_iff_iff]
  simp only [decide_eq_true_eq, beq_iff_eq]
  constructor
  · intro h
    have := h1 (by omega)
    omega
  · intro h
    rcases Int.lt_or_le R S with g | g
    · exact g
    · have := h2 g
      omega
theorem order_zero (R S : Int) (h0 : 0 ≤ R) (h1 : R < 1073741824) (h2 : 0 ≤ S) (h3 : S < 1073741824) : R / (2 : Int) ^ 30 = S / (2 : Int) ^ 30 := by
  have e : (2 : Int) ^ 30 = 1073741824 := by decide
  rw [e]; omega
theorem dgt_two (R : Int) (k : Nat) : dgt R k = 0 ∨ dgt R k = 1 := by unfold dgt; omega

def rkL (id : Int) (ext : Bool) : Int := if ext then id / 262144 * 524288 + 262144 + id % 262144 else id * 524288
def spread (id : Int) (ext : Bool) : Int := if ext then id else id * 262144
theorem and_one (a : Int) (h0 : 0 ≤ a) (h1 : a < 4294967296) : bits .and .u32 a 1 = a % 2 := by
  obtain ⟨n, rfl⟩ := Int.eq_ofNat_of_zero_le h0
  rw [show (1 : Int) = ((1 : Nat) : Int) from rfl, u32_and_nat _ _ (by omega) (by omega), Nat.and_one_is_mod]
  omega
theorem pow_pos2 (n : Nat) : (0 : Int) < (2 : Int) ^ n := Int.pow_pos (by decide)
theorem div_small (J : Int) (n : Nat) (h0 : 0 ≤ J) (h1 : J < 536870912) : 0 ≤ J / (2 : Int) ^ n ∧ J / (2 : Int) ^ n < 4294967296 :=
  ⟨Int.ediv_nonneg h0 (Int.le_of_lt (pow_pos2 n)), by
    have := Int.ediv_le_self (2 ^ n) h0
    omega⟩
theorem all30 {p : Nat → Prop} (h : p 0 ∧ p 1 ∧ p 2 ∧ p 3 ∧ p 4 ∧ p 5 ∧ p 6 ∧ p 7 ∧ p 8 ∧ p 9 ∧ p 10) : ∀ k, k < 11 → p k := by
  intro k hk
  obtain ⟨h0, h1, h2, h3, h4, h5, h6, h7, h8, h9, h10⟩ := h
  match k, hk with
  | 0, _ => exact h0
  | 1, _ => exact h1
  | 2, _ => exact h2
  | 3, _ => exact h3
  | 4, _ => exact h4
  | 5, _ => exact h5
  | 6, _ => exact h6
  | 7, _ => exact h7
  | 8, _ => exact h8
  | 9, _ => exact h9
  | 10, _ => exact h10
/-- The Rank's high part. -/
theorem rk_high (id : Int) (ext : Bool) (h0 : 0 ≤ id) (n : Nat) : rkL id ext / (2 : Int) ^ (19 + n) = spread id ext / (2 : Int) ^ (18 + n) := by
  have e1 : (2 : Int) ^ (19 + n) = (2 : Int) ^ 19 * (2 : Int) ^ n := by rw [Int.pow_add]
  have e2 : (2 : Int) ^ (18 + n) = (2 : Int) ^ 18 * (2 : Int) ^ n := by rw [Int.pow_add]
  rw [e1, e2, ← Int.ediv_ediv_of_nonneg (by decide), ← Int.ediv_ediv_of_nonneg (by decide)]
  congr 1
  rw [show (2 : Int) ^ 19 = 524288 by decide, show (2 : Int) ^ 18 = 262144 by decide]
  cases ext <;> simp [rkL, spread] <;> omega
theorem rk_mid (id : Int) (ext : Bool) (h0 : 0 ≤ id) : rkL id ext / (2 : Int) ^ 18 % 2 = if ext then 1 else 0 := by
  rw [show (2 : Int) ^ 18 = 262144 by decide]
  cases ext <;> simp [rkL] <;> omega
theorem rk_low (id : Int) (ext : Bool) (h0 : 0 ≤ id) (n : Nat) (hn : n < 18) : rkL id ext / (2 : Int) ^ n % 2 = spread id ext / (2 : Int) ^ n % 2 := by
  obtain ⟨m, e, hm⟩ : ∃ m : Int, (262144 : Int) = (2 : Int) ^ n * (2 * m) ∧ 0 ≤ m := ⟨(2 : Int) ^ (17 - n), by
    have : (2 : Int) ^ n * (2 * (2 : Int) ^ (17 - n)) = (2 : Int) ^ (n + 1 + (17 - n)) := by rw [Int.pow_add, Int.pow_succ, Int.mul_assoc]
    rw [this, show n + 1 + (17 - n) = 18 by omega]; decide, Int.le_of_lt (pow_pos2 _)⟩
  have key : ∀ (q r : Int), (q * 262144 + r) / (2 : Int) ^ n % 2 = r / (2 : Int) ^ n % 2 := fun q r => by
    rw [e, show q * ((2 : Int) ^ n * (2 * m)) + r = r + (2 : Int) ^ n * (2 * (q * m)) by rw [Int.add_comm]; congr 1; rw [Int.mul_left_comm, Int.mul_left_comm q]]
    rw [Int.add_mul_ediv_left _ _ (Int.ne_of_gt (pow_pos2 n))]
    omega
  cases ext
  · have h1 : rkL id false = (2 * id) * 262144 + 0 := by simp [rkL]; omega
    have h2 : spread id false = id * 262144 + 0 := by simp [spread]
    rw [h1, h2, key, key]
  · have h1 : rkL id true = (2 * (id / 262144) + 1) * 262144 + id % 262144 := by simp [rkL]; omega
    have h2 : spread id true = (id / 262144) * 262144 + id % 262144 := by simp [spread]; omega
    rw [h1, h2, key, key]
theorem dg1 (id : Int) (ext : Bool) (h0 : 0 ≤ id) (h1 : spread id ext < 536870912) (k : Nat) (hk : k < 11) : bits .and .u32 (spread id ext / (2 : Int) ^ (28 - k)) 1 = dgt (rkL id ext) k := by
  have hs : 0 ≤ spread id ext := by cases ext <;> simp [spread] <;> omega
  obtain ⟨a, b⟩ := div_small (spread id ext) (28 - k) hs h1
  rw [and_one _ a b]
  unfold dgt
  have := rk_high id ext h0 (10 - k)
  rw [show 19 + (10 - k) = 29 - k by omega, show 18 + (10 - k) = 28 - k by omega] at this
  rw [this]
theorem dg2 (id : Int) (ext : Bool) (h0 : 0 ≤ id) : dgt (rkL id ext) 11 = if ext then 1 else 0 := rk_mid id ext h0
theorem dg3 (id : Int) (ext : Bool) (h0 : 0 ≤ id) (h1 : spread id ext < 536870912) (k : Nat) (hk : k < 18) : bits .and .u32 (spread id ext / (2 : Int) ^ (17 - k)) 1 = dgt (rkL id ext) (12 + k) := by
  have hs : 0 ≤ spread id ext := by cases ext <;> simp [spread] <;> omega
  obtain ⟨a, b⟩ := div_small (spread id ext) (17 - k) hs h1
  rw [and_one _ a b]
  unfold dgt
  rw [show 29 - (12 + k) = 17 - k by omega, rk_low id ext h0 _ (by omega)]
theorem info22 : (Try.prog.info? 22).map (fun i => (i.zero, i.size, i.bytes)) = some (some (.int .u32 0), 1, 4) := by kernel_rfl
abbrev u32s (xs : List Int) : List Value := xs.map (Value.int .u32)
theorem u32s_snoc (R : Int) (k : Nat) : u32s (dgs R k) ++ [.int .u32 (dgt R k)] = u32s (dgs R (k + 1)) := by rw [← dgs_succ]; simp
def RetO (w : World) (R : Int) (e : Ending) (w' : World) : Prop := ∃ g off c, e = .returned (.slice (some ⟨g, off, none⟩) 30 c) ∧ (∀ w2, Below w'.heap.size w' w2 → ∀ k : Nat, k < 30 → w2.cell? ⟨g, off + k, none⟩ = some (.int .u32 (dgt R k))) ∧ Below w.heap.size w w'
theorem retO {w w' : World} {R : Int} {A : Option Addr} {c : Nat} (hown : Own w' w.heap.size 22 1 A 30 c (u32s (dgs R 30))) (hb : Below w.heap.size w w') : RetO w R (.returned (.slice A 30 c)) w' := by
  cases A with
  | none => have := hown.2.2.2.1 rfl; have := hown.2.1; omega
  | some a =>
    obtain ⟨g, off, cur, rfl, _⟩ := hown.2.2.2.2 a rfl
    refine ⟨g, off, c, rfl, fun w2 hb2 k hk => (hown.below hb2).cells k _ ?_, hb⟩
    simp [dgs, hk]
set_option maxHeartbeats 2000000 in
theorem bits_f (id : Int) (w : World) (h0 : 0 ≤ id) (h1 : id < 2048) :
    Calls Try.prog 15 #[lit0 id false] w (RetO w (rkL id false)) := by
  have F1 := Lib.hid (fun k hk => dg1 id false h0 (by simp [spread]; omega) k hk)
  have F2 := Lib.hid (dg2 id false h0)
  have F3 := Lib.hid (fun k hk => dg3 id false h0 (by simp [spread]; omega) k hk)
  have es : spread id false = id * 262144 := by simp [spread]
  rw [es] at F1 F3
  clear es
  generalize rkL id false = R at *
  have b0 : 0 ≤ id * 262144 := by omega
  have b1 : id * 262144 < 4294967296 := by omega
  go_enter Try.func15, Try.ntmps15
  go_wp2
  generalize id * 262144 = J at *
  go_loopw [3, 5] (fun v i wr => ∃ (k : Nat) (A : Option Addr) (c : Nat), k ≤ 11 ∧ i = .int .i64 (28 - k) ∧ v = .slice A k c ∧ Own wr w.heap.size 22 1 A k c (u32s (dgs R k)) ∧ Blk wr w.heap.size 26 #[.int .u32 id, .bool false, .int .i64 0, .int .u8 0, .int .u8 0, .int .u8 0, .int .u8 0, .int .u8 0, .int .u8 0, .int .u8 0, .int .u8 0] ∧ Below w.heap.size w wr) (fun _ i _ => (intOf i - 17).toNat)
  case atStart => exact ⟨0, none, 0, Nat.zero_le _, rfl, rfl, Own.nil _ _ _ _, Blk.new _ _ _, (Below.refl _ _).alloc (Nat.le_refl _) _⟩
  case round =>
    obtain ⟨k, A, c, hk', rfl, rfl, hown, hB, hbel⟩ := hrel
    have hz := hbel.size
    by_cases hlt : k < 11
    · have HV := Lib.hid (F1.out k hlt)
      go_wp2_with (at_builtin; refine wpList_app _ rfl (.tmp 19) (.tmp 24) 36 rfl w.heap.size 22 (.int .u32 0) 1 4 Try.underlying36 info22 rfl (by decide) A k c _ rfl (hown.alloc _) _ _ 1 1 _ rfl rfl (Rd.one wr (.int .u32 _) 22) (one_one rfl) (by unfold maxLen; omega) (by omega) (by simp; omega) ?_; intro A' c' w' hown' hg hbk)
      rw [HV.out, u32s_snoc] at hown'
      go_roundw
      case rel => exact ⟨k + 1, A', c', by omega, by go_num, rfl, hown', (hB.alloc _).grown hg (own_blk_ne hown hB (by decide)), bel_app (hbel.alloc hz _) (hown.alloc _) (Nat.le_refl _) hg⟩
      case measure => simp [intOf]; omega
    · obtain rfl : k = 11 := by omega
      have hc := hB.cell
      go_wp2_with (at_builtin; refine wpList_app _ rfl (.tmp 28) (.tmp 30) 36 rfl w.heap.size 22 (.int .u32 0) 1 4 Try.underlying36 info22 rfl (by decide) A 11 c _ rfl (hown.alloc _) _ _ 1 1 _ rfl rfl (Rd.one wr (.int .u32 _) 22) (one_one rfl) (by unfold maxLen; omega) (by omega) (by simp; omega) ?_; intro A' c' w' hown' hg hbk)
      have e0 : u32s (dgs R 11) ++ [.int .u32 0] = u32s (dgs R 12) := by
        have := u32s_snoc R 11
        rwa [F2.out] at this
      rw [e0] at hown'
      have hbel' := bel_app (hbel.alloc hz _) (hown.alloc _) (Nat.le_refl _) hg
      clear e0 hg hbk hown hB hbel hc
      go_loopw [3, 7] (fun v i wr => ∃ (k : Nat) (A : Option Addr) (c : Nat), k ≤ 18 ∧ i = .int .i64 (17 - k) ∧ v = .slice A (12 + k) c ∧ Own wr w.heap.size 22 1 A (12 + k) c (u32s (dgs R (12 + k))) ∧ Below w.heap.size w wr) (fun _ i _ => (intOf i + 1).toNat)
      case atStart => exact ⟨0, A', c', Nat.zero_le _, rfl, rfl, hown', hbel'⟩
      case round =>
        obtain ⟨k, A, c, hk', rfl, rfl, hown, hbel⟩ := hrel
        have hz := hbel.size
        by_cases hlt : k < 18
        · have HV := Lib.hid (F3.out k hlt)
          go_wp2_with (at_builtin; refine wpList_app _ rfl (.tmp 36) (.tmp 41) 36 rfl w.heap.size 22 (.int .u32 0) 1 4 Try.underlying36 info22 rfl (by decide) A (12 + k) c _ rfl (hown.alloc _) _ _ 1 1 _ rfl rfl (Rd.one wr (.int .u32 _) 22) (one_one rfl) (by unfold maxLen; omega) (by omega) (by simp; omega) ?_; intro A' c' w' hown' hg hbk)
          rw [HV.out, u32s_snoc] at hown'
          go_roundw
          case rel => exact ⟨k + 1, A', c', by omega, by go_num, rfl, hown', bel_app (hbel.alloc hz _) (hown.alloc _) (Nat.le_refl _) hg⟩
          case measure => simp [intOf]; omega
        · obtain rfl : k = 18 := by omega
          go_wp2
          go_ret
          exact retO hown hbel
set_option maxHeartbeats 2000000 in
theorem bits_t (id : Int) (w : World) (h0 : 0 ≤ id) (h1 : id < 536870912) :
    Calls Try.prog 15 #[lit0 id true] w (RetO w (rkL id true)) := by
  have F1 := Lib.hid (fun k hk => dg1 id true h0 (by simp [spread]; omega) k hk)
  have F2 := Lib.hid (dg2 id true h0)
  have F3 := Lib.hid (fun k hk => dg3 id true h0 (by simp [spread]; omega) k hk)
  have es : spread id true = id := by simp [spread]
  rw [es] at F1 F3
  clear es
  generalize rkL id true = R at *
  have b1 : id < 4294967296 := by omega
  go_enter Try.func15, Try.ntmps15
  go_wp2
  go_loopw [3, 5] (fun v i wr => ∃ (k : Nat) (A : Option Addr) (c : Nat), k ≤ 11 ∧ i = .int .i64 (28 - k) ∧ v = .slice A k c ∧ Own wr w.heap.size 22 1 A k c (u32s (dgs R k)) ∧ Blk wr w.heap.size 26 #[.int .u32 id, .bool true, .int .i64 0, .int .u8 0, .int .u8 0, .int .u8 0, .int .u8 0, .int .u8 0, .int .u8 0, .int .u8 0, .int .u8 0] ∧ Below w.heap.size w wr) (fun _ i _ => (intOf i - 17).toNat)
  case atStart => exact ⟨0, none, 0, Nat.zero_le _, rfl, rfl, Own.nil _ _ _ _, Blk.new _ _ _, (Below.refl _ _).alloc (Nat.le_refl _) _⟩
  case round =>
    obtain ⟨k, A, c, hk', rfl, rfl, hown, hB, hbel⟩ := hrel
    have hz := hbel.size
    by_cases hlt : k < 11
    · have HV := Lib.hid (F1.out k hlt)
      go_wp2_with (at_builtin; refine wpList_app _ rfl (.tmp 19) (.tmp 24) 36 rfl w.heap.size 22 (.int .u32 0) 1 4 Try.underlying36 info22 rfl (by decide) A k c _ rfl (hown.alloc _) _ _ 1 1 _ rfl rfl (Rd.one wr (.int .u32 _) 22) (one_one rfl) (by unfold maxLen; omega) (by omega) (by simp; omega) ?_; intro A' c' w' hown' hg hbk)
      rw [HV.out, u32s_snoc] at hown'
      go_roundw
      case rel => exact ⟨k + 1, A', c', by omega, by go_num, rfl, hown', (hB.alloc _).grown hg (own_blk_ne hown hB (by decide)), bel_app (hbel.alloc hz _) (hown.alloc _) (Nat.le_refl _) hg⟩
      case measure => simp [intOf]; omega
    · obtain rfl : k = 11 := by omega
      have hc := hB.cell
      go_wp2_with (at_builtin; refine wpList_app _ rfl (.tmp 28) (.tmp 30) 36 rfl w.heap.size 22 (.int .u32 0) 1 4 Try.underlying36 info22 rfl (by decide) A 11 c _ rfl (hown.alloc _) _ _ 1 1 _ rfl rfl (Rd.one wr (.int .u32 _) 22) (one_one rfl) (by unfold maxLen; omega) (by omega) (by simp; omega) ?_; intro A' c' w' hown' hg hbk)
      have e0 : u32s (dgs R 11) ++ [.int .u32 1] = u32s (dgs R 12) := by
        have := u32s_snoc R 11
        rwa [F2.out] at this
      rw [e0] at hown'
      have hbel' := bel_app (hbel.alloc hz _) (hown.alloc _) (Nat.le_refl _) hg
      clear e0 hg hbk hown hB hbel hc
      go_loopw [3, 7] (fun v i wr => ∃ (k : Nat) (A : Option Addr) (c : Nat), k ≤ 18 ∧ i = .int .i64 (17 - k) ∧ v = .slice A (12 + k) c ∧ Own wr w.heap.size 22 1 A (12 + k) c (u32s (dgs R (12 + k))) ∧ Below w.heap.size w wr) (fun _ i _ => (intOf i + 1).toNat)
      case atStart => exact ⟨0, A', c', Nat.zero_le _, rfl, rfl, hown', hbel'⟩
      case round =>
        obtain ⟨k, A, c, hk', rfl, rfl, hown, hbel⟩ := hrel
        have hz := hbel.size
        by_cases hlt : k < 18
        · have HV := Lib.hid (F3.out k hlt)
          go_wp2_with (at_builtin; refine wpList_app _ rfl (.tmp 36) (.tmp 41) 36 rfl w.heap.size 22 (.int .u32 0) 1 4 Try.underlying36 info22 rfl (by decide) A (12 + k) c _ rfl (hown.alloc _) _ _ 1 1 _ rfl rfl (Rd.one wr (.int .u32 _) 22) (one_one rfl) (by unfold maxLen; omega) (by omega) (by simp; omega) ?_; intro A' c' w' hown' hg hbk)
          rw [HV.out, u32s_snoc] at hown'
          go_roundw
          case rel => exact ⟨k + 1, A', c', by omega, by go_num, rfl, hown', bel_app (hbel.alloc hz _) (hown.alloc _) (Nat.le_refl _) hg⟩
          case measure => simp [intOf]; omega
        · obtain rfl : k = 18 := by omega
          go_wp2
          go_ret
          exact retO hown hbel
end Go.Proofs.Ytegbffcimldjnaa
