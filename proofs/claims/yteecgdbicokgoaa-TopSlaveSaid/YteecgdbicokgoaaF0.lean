/- slave.New; a fresh slave, connected. -/
import Derived.Test.YteecgdbicokgoaaS8
import Derived.Test.YteecgdbicokgoaaM4
import Derived.Test.YteecgdbicokgoaaP3
namespace Go.Proofs.Yteecgdbicokgoaa
open Go.RowKit Go.Shelf
set_option linter.unusedVariables false
set_option linter.unusedSimpArgs false
set_option maxRecDepth 100000
theorem slnew_any (m l : Nat) (w : World) : Calls Try.prog 31 #[.pointer (some ⟨m, 0, none⟩), .pointer (some ⟨l, 0, none⟩)] w fun e w' => e = .returned (.tuple #[.pointer (some ⟨w.heap.size, 0, none⟩), .int .i64 0]) ∧ w' = w.alloc (.cells #[.pointer (some ⟨m, 0, none⟩), .pointer (some ⟨l, 0, none⟩), .bool false, .int .u8 0, .int .u32 0, .int .i64 0] 146) := by
  go_enter Try.func31, Try.ntmps31
  go_wp2
  go_ret2
  exact ⟨rfl, rfl⟩
/-- A fresh memory. -/
def M00 : Mx := ⟨zeros 64, some ⟨zeros 16, zeros 16, 0, 0⟩⟩
/-- A fresh slave, connected. -/
def X00 (lk : Int) : St := { on := true, area := 0, pt := 0, block := 0, M := M00, a := ⟨m13 lk, m13 lk, none⟩ }
set_option maxHeartbeats 2000000 in
theorem fresh_any (lk : Int) (h0 : 0 ≤ lk) (h1 : lk < 256) (w : World) : Calls Try.prog 6 #[.int .u8 lk] w fun e w' => ∃ m l s T, e = .returned (.tuple #[.pointer (some ⟨m, 0, none⟩), .pointer (some ⟨l, 0, none⟩), .pointer (some ⟨s, 0, none⟩)]) ∧ TA w' (w.heap.size + 1) T w'.heap.size s m l (X00 lk) ∧ w.heap.size + 1 ≤ T ∧ Below w.heap.size w w' := by
  have NM := Lib.hid (new1_any (w.alloc (.cells #[.int .i64 16, .int .i64 2] 89)) w.heap.size (Blk.new _ _ _))
  have B0 := Lib.hid (bl1 w (.cells #[.int .i64 16, .int .i64 2] 89))
  go_enter Try.func6, Try.ntmps6
  go_wp2_with fail
  refine NM.out.mono ?_
  rintro e w1 ⟨m, rfl, hM, hb1⟩
  have HM := Lib.hid (And.intro hM hb1)
  clear hM hb1 NM
  go_wp2_with fail
  refine (lnew_any lk w1 w1.heap.size (fun i => w1.heap.size ≤ i ∧ i < w1.heap.size) (Nat.le_refl _) h0 h1).mono ?_
  rintro e w2 ⟨rfl, hL, hb2⟩
  have HL := Lib.hid (And.intro hL hb2)
  clear hL hb2
  go_wp2_with fail
  refine (slnew_any _ _ _).mono ?_
  rintro e w3 ⟨rfl, hw3⟩
  have hb3 : Below w2.heap.size w2 w3 := hw3 ▸ bl1 _ _
  have S3 : SlB w3 w2.heap.size m w1.heap.size false 0 0 0 := by
    rw [hw3]
    exact Blk.new _ _ _
  have hTA : TA w3 (w.heap.size + 1) w1.heap.size w1.heap.size w2.heap.size m w1.heap.size { on := false, area := 0, pt := 0, block := 0, M := M00, a := ⟨m13 lk, m13 lk, none⟩ } := by
    have hM := HM.out.1
    simp only [World.size_alloc] at hM
    refine ⟨⟨Int.le_refl 0, (by decide : (0 : Int) < 256), Int.le_refl 0, (by decide : (0 : Int) < 4294967296)⟩, S3, ?_, HL.out.1.below hb3, HL.out.2.size, (by have h := HM.out.2.size; simp only [World.size_alloc] at h; exact h), Nat.le_trans HL.out.2.size hb3.size⟩
    exact (hM.below HL.out.2).below hb3
  have DC := Lib.hid (do_connect hTA (.slice none 0 0))
  have HB3 := Lib.hid (And.intro hb3 hTA)
  clear hw3 hb3 S3 hTA
  go_wp2_with fail
  refine DC.out.mono ?_
  rintro e w4 ⟨v, rfl, -, hTA, hch⟩
  have HF := Lib.hid (And.intro hTA hch)
  clear hTA hch DC
  go_wp2_with fail
  go_ret3
  have hLT := HB3.out.2.lt
  have hM1 := HM.out.2.size
  have hs : w.heap.size ≤ w3.heap.size := by
    have a1 := HL.out.2.size
    have a2 := HB3.out.1.size
    simp only [World.size_alloc] at hM1
    omega
  refine ⟨m, w1.heap.size, w2.heap.size, w1.heap.size, rfl, HF.out.1, hLT, ?_⟩
  have hb03 : Below w.heap.size w w3 := (B0.out.trans ((HM.out.2.trans ((HL.out.2.trans (HB3.out.1.mono HL.out.2.size)).mono hM1)).mono B0.out.size))
  exact hb03.trans ((ChR.below HF.out.2 (by have := HL.out.2.size; have := HB3.out.1.size; simp only [World.size_alloc] at hM1; omega)).mono (by omega))
end Go.Proofs.Yteecgdbicokgoaa
