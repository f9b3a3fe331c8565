/- Chapter 5: few, the examples, Word. -/
import Derived.Test.YtpfcmepiiphbiaaS2
import Derived.Lib.SlBytesConst
namespace Go.Proofs.Ytpfcmepiiphbiaa
open Go.RowKit
set_option linter.unusedVariables false
set_option linter.unusedSimpArgs false
theorem few3_any (A : Option Addr) (n c : Nat) (w : World) (hn : n ≤ c) (hl : n ≤ maxLen) (hA : A = none → n = 0 ∧ c = 0) :
    Calls Try.prog 27 #[.slice A n c] w fun e w' => e = .returned (.slice A (min n 300) c) ∧ w = w' := by
  unfold maxLen at hl
  cases A with
  | none =>
    obtain ⟨rfl, rfl⟩ := hA rfl
    go_enter Try.func27, Try.ntmps27
    go_wp2
    go_ret
    exact ⟨rfl, rfl⟩
  | some a =>
    by_cases h : n ≤ 300
    · have e : min n 300 = n := by omega
      have e2 : min (n : Int) 300 = (n : Int) := by omega
      have h' : (n : Int) ≤ 300 := by omega
      rw [e]
      clear hA e
      go_enter Try.func27, Try.ntmps27
      go_wp2
      go_ret
      exact ⟨rfl, rfl⟩
    · have e : min n 300 = 300 := by omega
      have e2 : min (n : Int) 300 = 300 := by omega
      have h' : (300 : Int) ≤ n := by omega
      rw [e]
      clear hA e
      go_enter Try.func27, Try.ntmps27
      go_wp2
      go_ret
      exact ⟨rfl, rfl⟩
def nine : List Int := [49, 50, 51, 52, 53, 54, 55, 56, 57]
theorem nine1 : sumV 1 nine true = (221, 0) := by decide +kernel
theorem nine7 : sumV 7 nine true = (47933, 0) := by decide +kernel
theorem nine8 : sumV 8 nine true = (10673, 0) := by decide +kernel
theorem nine9 : sumV 9 nine true = (3421780262, 0) := by decide +kernel
theorem nine_b8 : b8 nine := by decide
theorem nine_of (k v : Nat) (hv : sumV k nine true = (v, 0)) (g : Nat) (W wq : World) (hg : Rd W W.heap.size (some ⟨g, 0, none⟩) (u8s nine)) (hq : Below W.heap.size W wq) :
    Calls Try.prog 28 #[.int .u8 k, .slice (some ⟨g, 0, none⟩) 9 9, .bool true] wq fun e w' => e = .returned (.tuple #[.int .u32 v, .int .i64 0]) ∧ Below wq.heap.size wq w' := by
  have h := of_any k (some ⟨g, 0, none⟩) 9 9 nine true wq rfl ((hg.below hq).more hq.size) (fun h => by cases h) (Nat.le_refl _) (by decide) (by decide) nine_b8
  unfold OfP at h
  rw [hv] at h
  exact h
theorem rd_marked (w : World) (cs : List Value) (t : TypeId) (fr : Nat × Nat) : Rd (w.alloc (.cells cs.toArray t fr)) (w.alloc (.cells cs.toArray t fr)).heap.size (some ⟨w.heap.size, 0, none⟩) cs := fun _ =>
  ⟨w.heap.size, 0, rfl, by simp, fun i u hu => by
    rw [Nat.zero_add, World.cell?_alloc_mark]
    simpa using hu⟩
theorem two_named {w W : World} {c1 c2 : List Value} {t1 t2 : TypeId} {fr : Nat × Nat} (h : W = (w.alloc (.cells c1.toArray t1 fr)).alloc (.cells c2.toArray t2)) :
    Rd W W.heap.size (some ⟨w.heap.size, 0, none⟩) c1 ∧ Blk W (w.heap.size + 1) t2 c2.toArray ∧ Below w.heap.size w W := by
  subst h
  refine ⟨(rd_marked w c1 t1 fr).al _, ?_, bl2 w _ _⟩
  have := Blk.new (w.alloc (.cells c1.toArray t1 fr)) t2 c2.toArray
  simpa using this
set_option maxHeartbeats 4000000 in
theorem shown5_any (w : World) : Calls Try.prog 26 #[] w fun e w' => e = .returned (.bool true) ∧ Below w.heap.size w w' := by
  have hcc := Lib.run_convert_bytes_const (P := Try.prog) w 25 5 #[.int .u8 49, .int .u8 50, .int .u8 51, .int .u8 52, .int .u8 53, .int .u8 54, .int .u8 55, .int .u8 56, .int .u8 57] 9 9 Try.underlying25 Try.underlying5
  go_enter Try.func26, Try.ntmps26
  go_wp2_with fail
  refine wp_named fun W hW => ?_
  obtain ⟨B1, B2, hbW⟩ := two_named (c1 := u8s nine) (c2 := [.int .u32 1, .int .u32 221, .int .u32 7, .int .u32 47933, .int .u32 8, .int .u32 10673, .int .u32 9, .int .u32 3421780262]) hW
  clear hW
  have N1 : Hid (∀ wq, Below W.heap.size W wq → Calls Try.prog 28 #[.int .u8 1, .slice (some ⟨w.heap.size, 0, none⟩) 9 9, .bool true] wq fun e w' => e = .returned (.tuple #[.int .u32 221, .int .i64 0]) ∧ Below wq.heap.size wq w') := fun wq hq => nine_of 1 221 nine1 w.heap.size W wq B1 hq
  have N7 : Hid (∀ wq, Below W.heap.size W wq → Calls Try.prog 28 #[.int .u8 7, .slice (some ⟨w.heap.size, 0, none⟩) 9 9, .bool true] wq fun e w' => e = .returned (.tuple #[.int .u32 47933, .int .i64 0]) ∧ Below wq.heap.size wq w') := fun wq hq => nine_of 7 47933 nine7 w.heap.size W wq B1 hq
  have N8 : Hid (∀ wq, Below W.heap.size W wq → Calls Try.prog 28 #[.int .u8 8, .slice (some ⟨w.heap.size, 0, none⟩) 9 9, .bool true] wq fun e w' => e = .returned (.tuple #[.int .u32 10673, .int .i64 0]) ∧ Below wq.heap.size wq w') := fun wq hq => nine_of 8 10673 nine8 w.heap.size W wq B1 hq
  have N9 : Hid (∀ wq, Below W.heap.size W wq → Calls Try.prog 28 #[.int .u8 9, .slice (some ⟨w.heap.size, 0, none⟩) 9 9, .bool true] wq fun e w' => e = .returned (.tuple #[.int .u32 3421780262, .int .i64 0]) ∧ Below wq.heap.size wq w') := fun wq hq => nine_of 9 3421780262 nine9 w.heap.size W wq B1 hq
  go_loopw [14] (fun iv wx => ∃ k : Int, 0 ≤ k ∧ k ≤ 4 ∧ iv = .int .i64 k ∧ Below W.heap.size W wx) (fun iv _ => 4 - (intOf iv).toNat)
  case atStart => exact ⟨0, by decide, by decide, rfl, Below.refl _ _⟩
  case round =>
    obtain ⟨k, hk0, hk4, rfl, hb⟩ := hrel
    have hz := hb.size
    have hzW := hbW.size
    have c2 := (B2.below hb).cell
    obtain rfl | rfl | rfl | rfl | rfl : k = 0 ∨ k = 1 ∨ k = 2 ∨ k = 3 ∨ k = 4 := by omega
    · have BT := Blk.new wr 61 #[.int .u32 1, .int .u32 221]
      go_wp2_with fail
      refine (N1.out _ (hb.alloc hz _)).mono ?_
      rintro e w4 ⟨rfl, hb4⟩
      have cT := (BT.below hb4).cell
      have hb5 : Below W.heap.size W w4 := hb.trans ((bel1 hb4).mono hz)
      go_wp2_with fail
      go_roundw
      case rel => exact ⟨1, by decide, by decide, rfl, hb5⟩
      case measure => simp [intOf]
    · have BT := Blk.new wr 61 #[.int .u32 7, .int .u32 47933]
      go_wp2_with fail
      refine (N7.out _ (hb.alloc hz _)).mono ?_
      rintro e w4 ⟨rfl, hb4⟩
      have cT := (BT.below hb4).cell
      have hb5 : Below W.heap.size W w4 := hb.trans ((bel1 hb4).mono hz)
      go_wp2_with fail
      go_roundw
      case rel => exact ⟨2, by decide, by decide, rfl, hb5⟩
      case measure => simp [intOf]
    · have BT := Blk.new wr 61 #[.int .u32 8, .int .u32 10673]
      go_wp2_with fail
      refine (N8.out _ (hb.alloc hz _)).mono ?_
      rintro e w4 ⟨rfl, hb4⟩
      have cT := (BT.below hb4).cell
      have hb5 : Below W.heap.size W w4 := hb.trans ((bel1 hb4).mono hz)
      go_wp2_with fail
      go_roundw
      case rel => exact ⟨3, by decide, by decide, rfl, hb5⟩
      case measure => simp [intOf]
    · have BT := Blk.new wr 61 #[.int .u32 9, .int .u32 3421780262]
      go_wp2_with fail
      refine (N9.out _ (hb.alloc hz _)).mono ?_
      rintro e w4 ⟨rfl, hb4⟩
      have cT := (BT.below hb4).cell
      have hb5 : Below W.heap.size W w4 := hb.trans ((bel1 hb4).mono hz)
      go_wp2_with fail
      go_roundw
      case rel => exact ⟨4, by decide, by decide, rfl, hb5⟩
      case measure => simp [intOf]
    · go_wp2_with fail
      go_ret
      exact ⟨rfl, hbW.trans (hb.mono hzW)⟩
end Go.Proofs.Ytpfcmepiiphbiaa
