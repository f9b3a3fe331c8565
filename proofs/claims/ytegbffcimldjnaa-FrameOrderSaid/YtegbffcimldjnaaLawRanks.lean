import Derived.Test.YtegbffcimldjnaaPad
import Derived.Test.YtegbffcimldjnaaShown
import Derived.Test.YtegbffcimldjnaaNam
namespace Go.Proofs.Ytegbffcimldjnaa
open Go.RowKit
set_option linter.unusedVariables false
set_option linter.unusedSimpArgs false

abbrev lit0 (i : Int) (x : Bool) : Value := .agg #[.int .u32 i, .bool x, .int .i64 0, .int .u8 0, .int .u8 0, .int .u8 0, .int .u8 0, .int .u8 0, .int .u8 0, .int .u8 0, .int .u8 0]
theorem rank_lit (i : Int) (x : Bool) (h0 : 0 ≤ i) (h1 : kn i x = true) :
    ∃ r, (∀ w, Calls Try.prog 14 #[lit0 i x] w fun e w' => e = .returned (.int .u32 r) ∧ Below w.heap.size w w') ∧ r = (if x then i / 262144 * 524288 + 262144 + i % 262144 else i * 524288) := by
  have hi : i < 536870912 := by cases x <;> simp [kn] at h1 <;> omega
  refine ⟨_, fun w => rank_any ⟨i, x, 0, []⟩ w (Fr.wf_lit _ _ _ h0 (by omega) (by omega) (by omega)), ?_⟩
  simp [Fr.rank, Fr.may, h1, Fr.zeros, Fr.g]
theorem eq_lit (i j : Int) (x y : Bool) (E : Bool) (h : (i == j && x == y) = E) (w : World) : (Op.equalIn 10000 26 (lit0 i x) (lit0 j y)).run Try.prog w = .ok E w := by
  rw [eq26, ← h]; simp [Fr.eqb, Fr.g]

set_option maxHeartbeats 2000000 in
theorem ranks_ff (a b : Int) (w : World) (ha : 0 ≤ a) (ha' : a < 4294967296) (hb : 0 ≤ b) (hb' : b < 4294967296) :
    Calls Try.prog 4 #[.int .u32 a, .int .u32 b, .bool false, .bool false] w fun e w' => e = .returned (.bool true) ∧ Below w.heap.size w w' := by
  have k1 : kn (a % 2048 % 536870912) false = true := by simp [kn]; omega
  have k2 : kn (b % 2048 % 536870912) false = true := by simp [kn]; omega
  obtain ⟨r1, c1, h1⟩ := rank_lit (a % 2048 % 536870912) false (by omega) k1
  obtain ⟨r2, c2, h2⟩ := rank_lit (b % 2048 % 536870912) false (by omega) k2
  have C1 := Lib.hid c1
  have C2 := Lib.hid c2
  simp at h1 h2
  obtain ⟨E, e1⟩ : ∃ E, (r1 == r2) = E := ⟨_, rfl⟩
  obtain ⟨L, e2⟩ : ∃ L, decide (r1 < r2) = L := ⟨_, rfl⟩
  have hE := fun W => eq_lit (a % 2048 % 536870912) (b % 2048 % 536870912) false false E (by rw [← e1, Bool.eq_iff_iff]; simp; omega) W
  have e3 : decide (a % 2048 % 536870912 < b % 2048 % 536870912) = L := by rw [← e2, Bool.eq_iff_iff]; simp; omega
  clear k1 k2 c1 c2 h1 h2
  go_enter Try.func4, Try.ntmps4
  go_wp2_with fail
  refine (shown_any _).mono ?_
  rintro e w1 ⟨rfl, hb1⟩
  have hs1 := hb1.size
  go_wp2_with fail
  refine wp_named fun W hW => ?_
  obtain ⟨B1, B2, hbW⟩ := blk2 hW
  clear hW
  have hr1 := B1.rule
  have hr2 := B2.rule
  go_region_held3 (fun w' => Below W.heap.size W w') (first | exact (Below.refl _ _).drew | exact bel2 (by assumption) (by assumption))
    (first | (go_at_call 14; (with_reducible refine (C1.out _).mono ?_); rintro e w2 ⟨rfl, hb2⟩) | (go_at_call 14; (with_reducible refine (C2.out _).mono ?_); rintro e w3 ⟨rfl, hb3⟩))
  have hfin : Below W.heap.size W w3 := by assumption
  go_wp2
  go_ret
  exact ⟨rfl, bel2 (bel2 hb1 hbW) hfin⟩

set_option maxHeartbeats 2000000 in
theorem ranks_ft (a b : Int) (w : World) (ha : 0 ≤ a) (ha' : a < 4294967296) (hb : 0 ≤ b) (hb' : b < 4294967296) :
    Calls Try.prog 4 #[.int .u32 a, .int .u32 b, .bool false, .bool true] w fun e w' => e = .returned (.bool true) ∧ Below w.heap.size w w' := by
  have k1 : kn (a % 2048 % 536870912) false = true := by simp [kn]; omega
  have k2 : kn (b % 536870912) true = true := by simp [kn]; omega
  obtain ⟨r1, c1, h1⟩ := rank_lit (a % 2048 % 536870912) false (by omega) k1
  obtain ⟨r2, c2, h2⟩ := rank_lit (b % 536870912) true (by omega) k2
  have C1 := Lib.hid c1
  have C2 := Lib.hid c2
  simp at h1 h2
  obtain ⟨E, e1⟩ : ∃ E, (r1 == r2) = E := ⟨_, rfl⟩
  obtain ⟨L, e2⟩ : ∃ L, decide (r1 < r2) = L := ⟨_, rfl⟩
  have hE := fun W => eq_lit (a % 2048 % 536870912) (b % 536870912) false true E (by rw [← e1, Bool.eq_iff_iff]; simp; omega) W
  have e3 : decide (a % 2048 % 536870912 ≤ b % 536870912 / 262144) = L := by rw [← e2, Bool.eq_iff_iff]; simp; omega
  clear k1 k2 c1 c2 h1 h2
  go_enter Try.func4, Try.ntmps4
  go_wp2_with fail
  refine (shown_any _).mono ?_
  rintro e w1 ⟨rfl, hb1⟩
  have hs1 := hb1.size
  go_wp2_with fail
  refine wp_named fun W hW => ?_
  obtain ⟨B1, B2, hbW⟩ := blk2 hW
  clear hW
  have hr1 := B1.rule
  have hr2 := B2.rule
  go_region_held3 (fun w' => Below W.heap.size W w') (first | exact (Below.refl _ _).drew | exact bel2 (by assumption) (by assumption))
    (first | (go_at_call 14; (with_reducible refine (C1.out _).mono ?_); rintro e w2 ⟨rfl, hb2⟩) | (go_at_call 14; (with_reducible refine (C2.out _).mono ?_); rintro e w3 ⟨rfl, hb3⟩))
  have hfin : Below W.heap.size W w3 := by assumption
  go_wp2
  go_ret
  exact ⟨rfl, bel2 (bel2 hb1 hbW) hfin⟩

set_option maxHeartbeats 2000000 in
theorem ranks_tf (a b : Int) (w : World) (ha : 0 ≤ a) (ha' : a < 4294967296) (hb : 0 ≤ b) (hb' : b < 4294967296) :
    Calls Try.prog 4 #[.int .u32 a, .int .u32 b, .bool true, .bool false] w fun e w' => e = .returned (.bool true) ∧ Below w.heap.size w w' := by
  have k1 : kn (a % 536870912) true = true := by simp [kn]; omega
  have k2 : kn (b % 2048 % 536870912) false = true := by simp [kn]; omega
  obtain ⟨r1, c1, h1⟩ := rank_lit (a % 536870912) true (by omega) k1
  obtain ⟨r2, c2, h2⟩ := rank_lit (b % 2048 % 536870912) false (by omega) k2
  have C1 := Lib.hid c1
  have C2 := Lib.hid c2
  simp at h1 h2
  obtain ⟨E, e1⟩ : ∃ E, (r1 == r2) = E := ⟨_, rfl⟩
  obtain ⟨L, e2⟩ : ∃ L, decide (r1 < r2) = L := ⟨_, rfl⟩
  have hE := fun W => eq_lit (a % 536870912) (b % 2048 % 536870912) true false E (by rw [← e1, Bool.eq_iff_iff]; simp; omega) W
  have e3 : decide (r1 < r2) = L := e2
  clear k1 k2 c1 c2 h1 h2
  go_enter Try.func4, Try.ntmps4
  go_wp2_with fail
  refine (shown_any _).mono ?_
  rintro e w1 ⟨rfl, hb1⟩
  have hs1 := hb1.size
  go_wp2_with fail
  refine wp_named fun W hW => ?_
  obtain ⟨B1, B2, hbW⟩ := blk2 hW
  clear hW
  have hr1 := B1.rule
  have hr2 := B2.rule
  go_region_held3 (fun w' => Below W.heap.size W w') (first | exact (Below.refl _ _).drew | exact bel2 (by assumption) (by assumption))
    (first | (go_at_call 14; (with_reducible refine (C1.out _).mono ?_); rintro e w2 ⟨rfl, hb2⟩) | (go_at_call 14; (with_reducible refine (C2.out _).mono ?_); rintro e w3 ⟨rfl, hb3⟩))
  have hfin : Below W.heap.size W w3 := by assumption
  go_wp2
  go_ret
  exact ⟨rfl, bel2 (bel2 hb1 hbW) hfin⟩

set_option maxHeartbeats 2000000 in
theorem ranks_tt (a b : Int) (w : World) (ha : 0 ≤ a) (ha' : a < 4294967296) (hb : 0 ≤ b) (hb' : b < 4294967296) :
    Calls Try.prog 4 #[.int .u32 a, .int .u32 b, .bool true, .bool true] w fun e w' => e = .returned (.bool true) ∧ Below w.heap.size w w' := by
  have k1 : kn (a % 536870912) true = true := by simp [kn]; omega
  have k2 : kn (b % 536870912) true = true := by simp [kn]; omega
  obtain ⟨r1, c1, h1⟩ := rank_lit (a % 536870912) true (by omega) k1
  obtain ⟨r2, c2, h2⟩ := rank_lit (b % 536870912) true (by omega) k2
  have C1 := Lib.hid c1
  have C2 := Lib.hid c2
  simp at h1 h2
  obtain ⟨E, e1⟩ : ∃ E, (r1 == r2) = E := ⟨_, rfl⟩
  obtain ⟨L, e2⟩ : ∃ L, decide (r1 < r2) = L := ⟨_, rfl⟩
  have hE := fun W => eq_lit (a % 536870912) (b % 536870912) true true E (by rw [← e1, Bool.eq_iff_iff]; simp; omega) W
  have e3 : decide (a % 536870912 < b % 536870912) = L := by rw [← e2, Bool.eq_iff_iff]; simp; omega
  clear k1 k2 c1 c2 h1 h2
  go_enter Try.func4, Try.ntmps4
  go_wp2_with fail
  refine (shown_any _).mono ?_
  rintro e w1 ⟨rfl, hb1⟩
  have hs1 := hb1.size
  go_wp2_with fail
  refine wp_named fun W hW => ?_
  obtain ⟨B1, B2, hbW⟩ := blk2 hW
  clear hW
  have hr1 := B1.rule
  have hr2 := B2.rule
  go_region_held3 (fun w' => Below W.heap.size W w') (first | exact (Below.refl _ _).drew | exact bel2 (by assumption) (by assumption))
    (first | (go_at_call 14; (with_reducible refine (C1.out _).mono ?_); rintro e w2 ⟨rfl, hb2⟩) | (go_at_call 14; (with_reducible refine (C2.out _).mono ?_); rintro e w3 ⟨rfl, hb3⟩))
  have hfin : Below W.heap.size W w3 := by assumption
  go_wp2
  go_ret
  exact ⟨rfl, bel2 (bel2 hb1 hbW) hfin⟩

theorem ranks_any (a b : Int) (x y : Bool) (w : World) (ha : 0 ≤ a) (ha' : a < 4294967296) (hb : 0 ≤ b) (hb' : b < 4294967296) :
    Calls Try.prog 4 #[.int .u32 a, .int .u32 b, .bool x, .bool y] w fun e w' => e = .returned (.bool true) ∧ Below w.heap.size w w' := by
  cases x <;> cases y
  · exact ranks_ff a b w ha ha' hb hb'
  · exact ranks_ft a b w ha ha' hb hb'
  · exact ranks_tf a b w ha ha' hb hb'
  · exact ranks_tt a b w ha ha' hb hb'
end Go.Proofs.Ytegbffcimldjnaa
