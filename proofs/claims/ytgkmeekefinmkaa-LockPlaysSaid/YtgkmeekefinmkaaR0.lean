/- The reference's lock. -/
import Derived.Test.YtgkmeekefinmkaaL6
namespace Go.Proofs.Ytgkmeekefinmkaa
open Go.RowKit
set_option linter.unusedVariables false
set_option linter.unusedSimpArgs false
/-- A slice of bytes, and that it is not nil. -/
def Held (w : World) (A : Option Addr) (n c : Nat) (xs : List Int) : Prop := (∃ a, A = some a) ∧ xs.length = n ∧ Own w 0 5 1 A n c (u8s xs)
/-- The reference's lock in memory. -/
def RAt (w : World) (B q : Nat) (a : LX) : Prop := B ≤ q ∧ a.ok ∧ match a.out with
  | none => Blk w q 41 #[.int .u8 a.all, .int .u8 a.shut, .slice none 0 0, .int .u8 0, .int .i64 0, .slice none 0 0]
  | some d => ∃ A1 c1 A3 c3, Blk w q 41 #[.int .u8 a.all, .int .u8 a.shut, .slice A1 d.s.length c1, .int .u8 d.of, .int .i64 d.told, .slice A3 d.came.length c3] ∧ Held w A1 d.s.length c1 d.s ∧ Own w 0 5 1 A3 d.came.length c3 (u8s d.came)
theorem RAt.chT {w w' : World} {B B' q : Nat} {a : LX} {ts : List TypeId} (h : RAt w B q a) (hc : ChT B' ts w w') (h5 : (5 : TypeId) ∉ ts) (h41 : (41 : TypeId) ∉ ts) : RAt w' B q a := by
  obtain ⟨h1, h2, h3⟩ := h
  refine ⟨h1, h2, ?_⟩
  cases ho : a.out with
  | none => rw [ho] at h3; exact Blk.chT h3 hc h41
  | some d =>
    rw [ho] at h3
    obtain ⟨A1, c1, A3, c3, g1, ⟨g2, g3, g4⟩, g5⟩ := h3
    exact ⟨A1, c1, A3, c3, g1.chT hc h41, ⟨g2, g3, g4.chT hc h5⟩, g5.chT hc h5⟩
theorem RAt.below {w w' : World} {B q : Nat} {a : LX} (h : RAt w B q a) (hb : Below w.heap.size w w') : RAt w' B q a := h.chT (ChT.of_below hb 0 []) (by simp) (by simp)
theorem three_any (r : Int) (w : World) : Calls Try.prog 25 #[.int .u8 r] w fun e w' => e = .returned (.int .u8 (m13 r)) ∧ w = w' := by
  have hm : bits .and .u8 r 13 = m13 r := rfl
  generalize m13 r = m at *
  go_enter Try.func25, Try.ntmps25
  go_wp2_with fail
  go_ret
  exact ⟨rfl, rfl⟩
theorem rnew_any (r : Int) (w : World) (B : Nat) (hB : B ≤ w.heap.size) (h0 : 0 ≤ r) (h1 : r < 256) : Calls Try.prog 14 #[.int .u8 r] w fun e w' => e = .returned (.pointer (some ⟨w.heap.size, 0, none⟩)) ∧ RAt w' B w.heap.size ⟨m13 r, m13 r, none⟩ ∧ Below w.heap.size w w' := by
  obtain ⟨m0, m1⟩ := m13_bd r h0 h1
  have T := Lib.hid (three_any r w)
  generalize m13 r = m at *
  go_enter Try.func14, Try.ntmps14
  go_wp2_with fail
  refine T.out.mono ?_
  rintro e w' ⟨rfl, rfl⟩
  go_wp2_with fail
  refine T.out.mono ?_
  rintro e w' ⟨rfl, rfl⟩
  go_wp2_with fail
  go_ret
  exact ⟨rfl, ⟨hB, ⟨m0, m1, m0, m1, fun d h => by cases h⟩, Blk.new _ _ _⟩, bl1 _ _⟩
/-- forget, over any six cells. -/
theorem forget_any {w : World} {q : Nat} {v0 v1 v2 v3 v4 v5 : Value} (h : Blk w q 41 #[v0, v1, v2, v3, v4, v5]) : Calls Try.prog 26 #[.pointer (some ⟨q, 0, none⟩)] w fun e w' => e = .returned (.tuple #[]) ∧ Blk w' q 41 #[v0, v1, .slice none 0 0, .int .u8 0, .int .i64 0, .slice none 0 0] ∧ ∀ B, B ≤ q → ChT B [41] w w' := by
  have c2 : w.cell? ⟨q, 2, none⟩ = some v2 := (h.cell 2).trans rfl
  have c3 : w.cell? ⟨q, 3, none⟩ = some v3 := (h.cell 3).trans rfl
  have c4 : w.cell? ⟨q, 4, none⟩ = some v4 := (h.cell 4).trans rfl
  have c5 : w.cell? ⟨q, 5, none⟩ = some v5 := (h.cell 5).trans rfl
  have cf := h.frozen
  have b1 := h.set_ 2 (.slice none 0 0)
  have b2 := b1.set_ 3 (.int .u8 0)
  have b3 := b2.set_ 4 (.int .i64 0)
  have b4 := Lib.hid (b3.set_ 5 (.slice none 0 0))
  have hc : Hid (∀ B, B ≤ q → ChT B [41] w ((((w.setCell ⟨q, 2, none⟩ (.slice none 0 0)).setCell ⟨q, 3, none⟩ (.int .u8 0)).setCell ⟨q, 4, none⟩ (.int .i64 0)).setCell ⟨q, 5, none⟩ (.slice none 0 0))) := Lib.hid fun B hB =>
    ((((ChT.refl B [41] w).set_ (o := 2) h (by simp) hB _).set_ (o := 3) b1 (by simp) hB _).set_ (o := 4) b2 (by simp) hB _).set_ (o := 5) b3 (by simp) hB _
  clear b1 b2 b3
  go_enter Try.func26, Try.ntmps26
  go_wp2_with fail
  go_end0
  exact ⟨rfl, b4.out, hc.out⟩
theorem RAt.six {w : World} {B q : Nat} {a : LX} (h : RAt w B q a) : ∃ v2 v3 v4 v5, Blk w q 41 #[.int .u8 a.all, .int .u8 a.shut, v2, v3, v4, v5] := by
  obtain ⟨h1, h2, h3⟩ := h
  cases ho : a.out with
  | none => rw [ho] at h3; exact ⟨_, _, _, _, h3⟩
  | some d =>
    rw [ho] at h3
    obtain ⟨A1, c1, A3, c3, g1, -⟩ := h3
    exact ⟨_, _, _, _, g1⟩
theorem rrelock_any {w : World} {B q : Nat} {a : LX} (h : RAt w B q a) : Calls Try.prog 20 #[.pointer (some ⟨q, 0, none⟩)] w fun e w' => e = .returned (.tuple #[]) ∧ RAt w' B q ⟨a.all, a.all, none⟩ ∧ ChT B [41] w w' := by
  obtain ⟨v2, v3, v4, v5, hb⟩ := h.six
  obtain ⟨h1, h2, -⟩ := h
  have c0 : w.cell? ⟨q, 0, none⟩ = some (.int .u8 a.all) := (hb.cell 0).trans rfl
  have c1 : w.cell? ⟨q, 1, none⟩ = some (.int .u8 a.shut) := (hb.cell 1).trans rfl
  have cf := hb.frozen
  have b1 := hb.set_ 1 (.int .u8 a.all)
  have hc := Lib.hid ((ChT.refl B [41] w).set_ (o := 1) hb (by simp) h1 (.int .u8 a.all))
  have F := Lib.hid (forget_any b1)
  clear b1
  go_enter Try.func20, Try.ntmps20
  go_wp2_with fail
  refine F.out.mono ?_
  rintro e w' ⟨rfl, hB, hch⟩
  go_wp2_with fail
  go_end0
  exact ⟨rfl, ⟨h1, ⟨h2.a0, h2.a1, h2.a0, h2.a1, fun d h => by cases h⟩, hB⟩, hc.out.trans (hch B h1)⟩
theorem rforget_any {w : World} {B q : Nat} {a : LX} (h : RAt w B q a) : Calls Try.prog 26 #[.pointer (some ⟨q, 0, none⟩)] w fun e w' => e = .returned (.tuple #[]) ∧ RAt w' B q { a with out := none } ∧ ChT B [41] w w' := by
  obtain ⟨v2, v3, v4, v5, hb⟩ := h.six
  obtain ⟨h1, h2, -⟩ := h
  refine (forget_any hb).mono ?_
  rintro e w' ⟨rfl, hB, hch⟩
  exact ⟨rfl, ⟨h1, LX.ok_none h2, hB⟩, hch B h1⟩
end Go.Proofs.Ytgkmeekefinmkaa
