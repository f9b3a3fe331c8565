/- The slave: read. -/
import Derived.Test.YteecgdbicokgoaaS1
import Derived.Deep.RegionHeld3
import Derived.Deep.RegionLaw
namespace Go.Proofs.Yteecgdbicokgoaa
open Go.RowKit
set_option linter.unusedVariables false
set_option linter.unusedSimpArgs false
set_option maxRecDepth 100000
set_option maxHeartbeats 4000000 in
theorem sl_read {w : World} {L T N s m l : Nat} {x : St} (h : TA w L T N s m l x) {n : Nat} (hn : 0 < n) (hn6 : n ≤ 1000000) {bs : List Int} (hr : readX x.M 2 x.area x.pt.toNat n = some bs) :
    Calls Try.prog 107 #[.pointer (some ⟨s, 0, none⟩), .int .i64 n] w fun e w' => ∃ A c, e = .returned (.slice A n c) ∧ bs.length = n ∧ Own w' w.heap.size 5 1 A n c (u8s bs) ∧ Below w.heap.size w w' := by
  obtain ⟨p, hp⟩ : ∃ p : Nat, x.pt = p := ⟨x.pt.toNat, by have := h.k.p0; omega⟩
  have hp32 : p < 4294967296 := by have := h.k.p1; omega
  rw [show x.pt.toNat = p by omega] at hr
  have RD := Lib.hid (fun w' (hb' : Below w.heap.size w w') => read_yes ((h.below hb').mem) (.inr rfl) hr hn)
  simp only [← hp] at RD
  have hB : Blk w s 146 #[.pointer (some ⟨m, 0, none⟩), .pointer (some ⟨l, 0, none⟩), .bool x.on, .int .u8 x.area, .int .u32 x.pt, .int .i64 x.block] := h.sl
  have cB := hB.cell
  have MO := Lib.hid (fun w => must_ok w)
  clear h hr hp32 hp
  go_enter Try.func107, Try.ntmps107
  go_upto_region 1 with fail
  have RD1 := Lib.hid (RD.out _ ((Below.refl w.heap.size w).drew))
  have cBd := (Blk.drew hB).cell
  go_region_with (first | (go_at_call 12; refine RD1.out.mono ?_; rintro e w4 ⟨A4, c4, rfl, hl4, hO4, hb4⟩))
  all_goals
    have HH := Lib.hid (And.intro hl4 (And.intro hO4 hb4))
    clear hl4 hO4 hb4 RD1 RD
    go_wp2_with fail
    refine (MO.out _).mono ?_
    rintro e w5 ⟨rfl, rfl⟩
    go_wp2_with fail
    go_ret
    exact ⟨A4, c4, rfl, HH.out.1, HH.out.2.1, ((Below.refl w.heap.size w).drew).trans HH.out.2.2⟩
set_option maxHeartbeats 4000000 in
theorem sl_read_no {w : World} {L T N s m l : Nat} {x : St} (h : TA w L T N s m l x) {n : Nat} (hn6 : n ≤ 1000000) (hr : readX x.M 2 x.area x.pt.toNat n = none) :
    Calls Try.prog 107 #[.pointer (some ⟨s, 0, none⟩), .int .i64 n] w fun e w' => e = .panicked (faultE 80) ∧ Below w.heap.size w w' := by
  obtain ⟨p, hp⟩ : ∃ p : Nat, x.pt = p := ⟨x.pt.toNat, by have := h.k.p0; omega⟩
  have hp32 : p < 4294967296 := by have := h.k.p1; omega
  rw [show x.pt.toNat = p by omega] at hr
  have RD := Lib.hid (fun w' (hb' : Below w.heap.size w w') => read_no ((h.below hb').mem) (.inr rfl) ⟨h.k.a0, h.k.a1⟩ hp32 hn6 hr)
  simp only [← hp] at RD
  have hB : Blk w s 146 #[.pointer (some ⟨m, 0, none⟩), .pointer (some ⟨l, 0, none⟩), .bool x.on, .int .u8 x.area, .int .u32 x.pt, .int .i64 x.block] := h.sl
  have cB := hB.cell
  have MO := Lib.hid (fun w => must_bad 80 (by decide) w)
  clear h hr hp32 hp
  go_enter Try.func107, Try.ntmps107
  go_upto_region 1 with fail
  have RD1 := Lib.hid (RD.out _ ((Below.refl w.heap.size w).drew))
  have cBd := (Blk.drew hB).cell
  go_region_with (first | (go_at_call 12; refine RD1.out.mono ?_; rintro e w4 ⟨rfl, hb4⟩))
  all_goals
    have HH := Lib.hid hb4
    clear hb4 RD1 RD
    go_wp2_with fail
    refine (MO.out _).mono ?_
    rintro e w5 ⟨rfl, rfl⟩
    exact ⟨rfl, rfl, ((Below.refl w.heap.size w).drew).trans HH.out⟩
end Go.Proofs.Yteecgdbicokgoaa
