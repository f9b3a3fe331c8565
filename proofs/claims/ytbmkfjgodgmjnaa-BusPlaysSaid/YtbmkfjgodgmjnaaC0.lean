/- The document's examples; BoxNil. -/
import Derived.Test.YtbmkfjgodgmjnaaB8
namespace Go.Proofs.Ytbmkfjgodgmjnaa
open Go.RowKit
set_option linter.unusedVariables false
set_option linter.unusedSimpArgs false
def fr (id : Int) (ext : Bool) : Fr := ⟨id, ext, 0, []⟩
theorem fr_wf (id : Int) (ext : Bool) (h0 : 0 ≤ id) (h1 : id < 4294967296) : (fr id ext).wf := ⟨h0, h1, (by decide : (-9223372036854775808 : Int) ≤ 0), (by decide : (0 : Int) ≤ 9223372036854775807), fun i => by simp [fr, Fr.g]⟩
/-- What is told first. -/
def NextP (a : Bx) (e : Ending) (w : World) (w' : World) : Prop := e = .returned (.tuple #[(a.tx.headD Fr.none_).val, .bool (!a.tx.isEmpty)]) ∧ Below w.heap.size w w'
theorem next_any {Φ : Who} {B q : Nat} {w : World} {a : Bx} (h : BX Φ B w q a) : Calls Try.prog 19 #[.pointer (some ⟨q, 0, none⟩)] w fun e w' => NextP a e w w' := by
  cases ht : a.tx with
  | nil =>
    refine (next_no h ht).mono ?_
    rintro e w' ⟨rfl, hb⟩
    exact ⟨by rw [ht]; rfl, hb⟩
  | cons f r =>
    refine (next_yes h ht).mono ?_
    rintro e w' ⟨rfl, hb⟩
    exact ⟨by rw [ht]; rfl, hb⟩
theorem eqF3 (w : World) : (Op.equalIn 10000 26 (.agg #[.int .u32 3, .bool false, .int .i64 0, .int .u8 0, .int .u8 0, .int .u8 0, .int .u8 0, .int .u8 0, .int .u8 0, .int .u8 0, .int .u8 0]) (.agg #[.int .u32 3, .bool false, .int .i64 0, .int .u8 0, .int .u8 0, .int .u8 0, .int .u8 0, .int .u8 0, .int .u8 0, .int .u8 0, .int .u8 0])).run Try.prog w = .ok true w := eq26_any (fr 3 false) (fr 3 false) w
abbrev fl5 : List Flt := [⟨2047, 5, false⟩]
theorem sx1 : sendX ⟨fl5, [], [], false⟩ (fr 5 false) = ⟨fl5, [fr 5 false], [], false⟩ ∧ sendE ⟨fl5, [], [], false⟩ (fr 5 false) = 0 := ⟨by kernel_rfl, by kernel_rfl⟩
theorem sx2 : sendX ⟨fl5, [fr 5 false], [], false⟩ (fr 786432 true) = ⟨fl5, [fr 786432 true, fr 5 false], [], false⟩ ∧ sendE ⟨fl5, [fr 5 false], [], false⟩ (fr 786432 true) = 0 := ⟨by kernel_rfl, by kernel_rfl⟩
theorem sx3 : sendX ⟨fl5, [fr 786432 true, fr 5 false], [], false⟩ (fr 3 false) = ⟨fl5, [fr 3 false, fr 786432 true, fr 5 false], [], false⟩ ∧ sendE ⟨fl5, [fr 786432 true, fr 5 false], [], false⟩ (fr 3 false) = 0 := ⟨by kernel_rfl, by kernel_rfl⟩
theorem tx1 : takeX ⟨fl5, [fr 3 false, fr 786432 true, fr 5 false], [], false⟩ (fr 5 false) = ⟨fl5, [fr 3 false, fr 786432 true, fr 5 false], [fr 5 false], false⟩ ∧ takeB ⟨fl5, [fr 3 false, fr 786432 true, fr 5 false], [], false⟩ (fr 5 false) = true := ⟨by kernel_rfl, by kernel_rfl⟩
theorem tx2 : takeX ⟨fl5, [fr 3 false, fr 786432 true, fr 5 false], [fr 5 false], false⟩ (fr 6 false) = ⟨fl5, [fr 3 false, fr 786432 true, fr 5 false], [fr 5 false], false⟩ ∧ takeB ⟨fl5, [fr 3 false, fr 786432 true, fr 5 false], [fr 5 false], false⟩ (fr 6 false) = false := ⟨by kernel_rfl, by kernel_rfl⟩
set_option maxRecDepth 100000 in
set_option maxHeartbeats 4000000 in
theorem shown_any (w : World) : Calls Try.prog 14 #[] w fun e w' => e = .returned (.bool true) ∧ Below w.heap.size w w' := by
  have heq := eqF3
  go_enter Try.func14, Try.ntmps14
  go_wp2_with fail
  refine calls_named fun W hW => ?_
  obtain ⟨BW, hbW⟩ := blk1 hW
  clear hW
  have N := Lib.hid (new_yes (fun _ => (0, 9)) w.heap.size (some ⟨w.heap.size, 0, none⟩) 1 1 fl5 W hbW.size (nu0 W) rfl (Blk.rd (cs := flcells fl5) BW) (by simp) (by decide) (by intro x hx; simp at hx; subst hx; exact ⟨by decide, by decide, by decide, by decide⟩))
  clear BW
  refine N.out.mono ?_
  rintro e w1 ⟨q, Φ1, rfl, hq, B1, x1⟩
  have z1 := x1.size
  have S1 := send_any B1 (by have := hbW.size; omega) x1.nu (fr 5 false) (fr_wf _ _ (by decide) (by decide))
  rw [sx1.1, sx1.2] at S1
  have S1 := Lib.hid S1
  clear N B1
  go_wp2_with fail
  refine S1.out.mono ?_
  rintro e w2 ⟨rfl, Φ2, B2, x2⟩
  have z2 := x2.size
  have S2 := send_any B2 (by have := hbW.size; omega) x2.nu (fr 786432 true) (fr_wf _ _ (by decide) (by decide))
  rw [sx2.1, sx2.2] at S2
  have S2 := Lib.hid S2
  clear S1 B2
  go_wp2_with fail
  refine S2.out.mono ?_
  rintro e w3 ⟨rfl, Φ3, B3, x3⟩
  have z3 := x3.size
  have S3 := send_any B3 (by have := hbW.size; omega) x3.nu (fr 3 false) (fr_wf _ _ (by decide) (by decide))
  rw [sx3.1, sx3.2] at S3
  have S3 := Lib.hid S3
  clear S2 B3
  go_wp2_with fail
  refine S3.out.mono ?_
  rintro e w4 ⟨rfl, Φ4, B4, x4⟩
  have z4 := x4.size
  have NX : Hid (Calls Try.prog 19 #[.pointer (some ⟨q, 0, none⟩)] w4 fun e w' => e = .returned (.tuple #[.agg #[.int .u32 3, .bool false, .int .i64 0, .int .u8 0, .int .u8 0, .int .u8 0, .int .u8 0, .int .u8 0, .int .u8 0, .int .u8 0, .int .u8 0], .bool true]) ∧ Below w4.heap.size w4 w') := Lib.hid (next_yes B4 rfl)
  clear S3
  go_wp2_with fail
  refine NX.out.mono ?_
  rintro e w5 ⟨rfl, hb5⟩
  have z5 := hb5.size
  clear NX
  have T1 := fun o => take_any ((B4.below hb5).below (bl1 w5 o)) (by have := hbW.size; simp; omega) ((x4.nu.below hb5).below (bl1 w5 o)) (fr 5 false) (fr_wf _ _ (by decide) (by decide))
  rw [tx1.1, tx1.2] at T1
  have T1 := Lib.hid T1
  clear B4
  go_wp2_with fail
  refine (T1.out _).mono ?_
  rintro e w6 ⟨rfl, Φ6, B6, x6⟩
  have z6 := x6.size
  simp only [World.size_alloc] at z6
  have T2 := take_any B6 (by have := hbW.size; omega) x6.nu (fr 6 false) (fr_wf _ _ (by decide) (by decide))
  rw [tx2.1, tx2.2] at T2
  have T2 := Lib.hid T2
  clear T1 B6
  go_wp2_with fail
  refine T2.out.mono ?_
  rintro e w7 ⟨rfl, Φ7, B7, x7⟩
  go_wp2_with fail
  go_ret
  have zW := hbW.size
  refine ⟨rfl, ?_⟩
  have k1 := hbW.trans (x1.below zW)
  have k4 := ((k1.trans (x2.below (by omega))).trans (x3.below (by omega))).trans (x4.below (by omega))
  have k5 := (k4.trans (hb5.mono (by omega)))
  exact ((k5.alloc (by omega) _).trans (x6.below (by simp; omega))).trans (x7.below (by omega))
set_option maxRecDepth 100000 in
set_option maxHeartbeats 4000000 in
theorem nil_any (f : Fr) (w : World) : Calls Try.prog 7 #[f.val] w fun e w' => e = .returned (.bool true) ∧ Below w.heap.size w w' := by
  go_enter Try.func7, Try.ntmps7
  go_wp2_with fail
  refine (shown_any _).mono ?_
  rintro e w1 ⟨rfl, b1⟩
  have k1 := bel1 b1
  have BF : Blk w1 w.heap.size 26 f.cs.toArray := (Blk.new w 26 f.cs.toArray).below b1
  go_wp2_with fail
  refine (done_nil _).mono ?_
  rintro e w' ⟨rfl, rfl⟩
  go_wp2_with fail
  refine (next_nil _).mono ?_
  rintro e w2 ⟨rfl, b2⟩
  have k2 := k1.trans (b2.mono k1.size)
  go_wp2_with fail
  refine (recv_nil _).mono ?_
  rintro e w3 ⟨rfl, b3⟩
  have k3 := (k2.alloc k2.size _).trans ((b3.mono (by have := k2.size; simp; omega)))
  have z3 := b3.size
  simp only [World.size_alloc] at z3
  have BF3 := ((((BF.below b2).alloc (.cells Fr.none_.cs.toArray 26)).below b3).alloc (.cells Fr.none_.cs.toArray 26))
  have c3 := BF3.cell
  go_wp2_with fail
  refine (send_nil f _).mono ?_
  rintro e w4 ⟨rfl, b4⟩
  have c4 := (BF3.below b4).cell
  have z4 := b4.size
  simp only [World.size_alloc] at z4
  go_wp2_with fail
  refine (take_nil f _).mono ?_
  rintro e w5 ⟨rfl, b5⟩
  have z5 := b5.size
  go_wp2_with fail
  refine (over_nil _).mono ?_
  rintro e w' ⟨rfl, rfl⟩
  go_wp2_with fail
  refine (wait_nil _).mono ?_
  rintro e w' ⟨rfl, rfl⟩
  go_wp2_with fail
  refine (taken_nil _).mono ?_
  rintro e w' ⟨rfl, rfl⟩
  go_wp2_with fail
  go_ret
  exact ⟨rfl, ((k3.alloc k3.size _).trans (b4.mono (by have := k3.size; simp; omega))).trans (b5.mono (by have := k3.size; omega))⟩
end Go.Proofs.Ytbmkfjgodgmjnaa
