/- The slave's session: Unlock. -/
import Derived.Test.YteecgdbicokgoaaS1
import Derived.Deep.RegionHeld3
import Derived.Deep.RegionLaw
namespace Go.Proofs.Yteecgdbicokgoaa
open Go.RowKit
set_option linter.unusedVariables false
set_option linter.unusedSimpArgs false
set_option maxRecDepth 100000
set_option maxHeartbeats 4000000 in
theorem ses_unlock {w : World} {L T N s m l : Nat} {x : St} (h : TA w L T N s m l x) (c : Cm) (hw : c.wf) (hc : c.code = 13) (v : Value) {xs : List Int} (hx : xs.length = c.bn) (hb : Rd w w.heap.size c.bA (u8s xs)) (hu : by8 xs) {a' : LX} (hr : unlockX x.a c.a0 xs = (a', 0)) :
    Calls Try.prog 85 #[.pointer (some ⟨s, 0, none⟩), c.val, v] w (AnsS w L T s m l { x with a := a' } [a'.shut]) := by
  have hbw := bl1 w (.cells c.cs.toArray 35)
  have hcc := (Blk.new w 35 c.cs.toArray).cell
  have H1 := h.below hbw
  have hsl := Blk.cell H1.sl
  have HH := Lib.hid H1
  have HB := Lib.hid hbw
  have UD := Lib.hid (fun w' (hb' : Below (w.alloc (.cells c.cs.toArray 35)).heap.size (w.alloc (.cells c.cs.toArray 35)) w') => unlock_any ((H1.below hb').lk) (H1.below hb').tz c.a0 c.bA c.bn c.bc xs (by have := hw.h0; omega) (by have := hw.h0; omega) (Nat.le_trans hw.b1 hw.b2) hx ((hb.bel hbw).bel hb') hu)
  rw [hr] at UD
  have hwa : IntKind.i64.wrap c.a0 = c.a0 := IntWalk.i64_in _ (by have := hw.h0; omega)
  have MO := Lib.hid (fun w => must_ok w)
  obtain ⟨code, a0, a1, a2, a3, a4, cw, bA, bn, bc⟩ := c
  simp only at hc
  subst hc
  clear h hbw H1 hb hr hw
  go_enter Try.func85, Try.ntmps85
  go_upto_region 20 with fail
  have UD1 := Lib.hid (UD.out _ ((Below.refl _ _).drew))
  go_region_with (first | (go_at_call 116; refine UD1.out.mono ?_; rintro e w4 ⟨rfl, hL4, hc4⟩) | (go_at_call 109; refine (MO.out _).mono ?_; rintro e w5 ⟨rfl, rfl⟩))
  all_goals
    try simp only [Act.put, List.setIfInBounds_toArray, List.set_cons_zero, List.set_cons_succ, Nat.reduceAdd, List.getElem?_toArray, List.getElem?_cons_zero, List.getElem?_cons_succ, Option.bind_some]
    try dsimp only at hL4
    have hd4 := (Below.refl (w.alloc (.cells (⟨13, a0, a1, a2, a3, a4, cw, bA, bn, bc⟩ : Cm).cs.toArray 35)).heap.size (w.alloc (.cells (⟨13, a0, a1, a2, a3, a4, cw, bA, bn, bc⟩ : Cm).cs.toArray 35))).drew
    have FIN4 := Lib.hid ((HH.out.below hd4).lock (N' := w4.heap.size) hL4 (fun i hi => by
      have hz := hc4.size
      have h1 := HH.out.n
      have h3 := hd4.size
      omega) (Nat.le_refl _) hc4)
    have HZ4 := Lib.hid (Nat.le_trans (Nat.le_trans HB.out.size hd4.size) hc4.size)
    have CH4 := Lib.hid (((ChR.of_below HB.out L [146, 109, 221] L T).grow hd4).trans FIN4.out.2)
    have LK := Lib.hid (locked_any hL4)
    have hs4 := Blk.cell FIN4.out.1.sl
    dsimp only at hs4
    have PS := Lib.hid (fun w => pos_any (some ⟨w4.heap.size, 0, none⟩) 1 1 w)
    have PL := Lib.hid (PosP.lit (w := w) (w5 := w4) HZ4.out [a'.shut] 1 rfl (by decide) (cs := #[.int .u8 a'.shut]) rfl)
    clear hL4 hc4 hd4 UD UD1 hsl hcc MO
    go_wp2_with fail
    refine LK.out.mono ?_
    rintro e w5 ⟨rfl, rfl⟩
    go_wp2_with fail
    refine (PS.out _).mono ?_
    rintro e w7 ⟨rfl, rfl⟩
    have FB := Lib.hid (bl2 w4 (.cells #[.int .u8 a'.shut] 5) (.cells #[.int .u8 1, .int .u8 0, .slice (some ⟨w4.heap.size, 0, none⟩) 1 1] 82))
    go_wp2_with fail
    go_ret
    refine ⟨_, rfl, ?_, (FIN4.out.1.below FB.out).more FB.out.size (Nat.le_refl _), CH4.out.grow FB.out⟩
    have := PL.out
    rw [World.size_alloc] at this
    exact this
set_option maxHeartbeats 4000000 in
theorem ses_unlock_no {w : World} {L T N s m l : Nat} {x : St} (h : TA w L T N s m l x) (c : Cm) (hw : c.wf) (hc : c.code = 13) (v : Value) {xs : List Int} (hx : xs.length = c.bn) (hb : Rd w w.heap.size c.bA (u8s xs)) (hu : by8 xs) {a' : LX} {f : Int} (hf : f ≠ 0) (hr : unlockX x.a c.a0 xs = (a', f)) :
    Calls Try.prog 85 #[.pointer (some ⟨s, 0, none⟩), c.val, v] w (FltS w L T s m l { x with a := a' } f) := by
  have hbw := bl1 w (.cells c.cs.toArray 35)
  have hcc := (Blk.new w 35 c.cs.toArray).cell
  have H1 := h.below hbw
  have hsl := Blk.cell H1.sl
  have HH := Lib.hid H1
  have HB := Lib.hid hbw
  have UD := Lib.hid (fun w' (hb' : Below (w.alloc (.cells c.cs.toArray 35)).heap.size (w.alloc (.cells c.cs.toArray 35)) w') => unlock_any ((H1.below hb').lk) (H1.below hb').tz c.a0 c.bA c.bn c.bc xs (by have := hw.h0; omega) (by have := hw.h0; omega) (Nat.le_trans hw.b1 hw.b2) hx ((hb.bel hbw).bel hb') hu)
  rw [hr] at UD
  have hwa : IntKind.i64.wrap c.a0 = c.a0 := IntWalk.i64_in _ (by have := hw.h0; omega)
  have MO := Lib.hid (fun w => must_bad f hf w)
  obtain ⟨code, a0, a1, a2, a3, a4, cw, bA, bn, bc⟩ := c
  simp only at hc
  subst hc
  clear h hbw H1 hb hr hw
  go_enter Try.func85, Try.ntmps85
  go_upto_region 20 with fail
  have UD1 := Lib.hid (UD.out _ ((Below.refl _ _).drew))
  have FIN : Hid (∀ w4, LAt w4 T (fun i => T ≤ i ∧ i < N) l a' → ChT T [109, 221] (w.alloc (.cells (⟨13, a0, a1, a2, a3, a4, cw, bA, bn, bc⟩ : Cm).cs.toArray 35)).drew w4 → TA w4 L T w4.heap.size s m l { x with a := a' } ∧ ChS L T w w4) := Lib.hid fun w4 hL4 hc4 => by
    have hd4 := (Below.refl (w.alloc (.cells (⟨13, a0, a1, a2, a3, a4, cw, bA, bn, bc⟩ : Cm).cs.toArray 35)).heap.size (w.alloc (.cells (⟨13, a0, a1, a2, a3, a4, cw, bA, bn, bc⟩ : Cm).cs.toArray 35))).drew
    have F4 := (HH.out.below hd4).lock (N' := w4.heap.size) hL4 (fun i hi => by
      have hz := hc4.size
      have h1 := HH.out.n
      have h3 := hd4.size
      omega) (Nat.le_refl _) hc4
    exact ⟨F4.1, ((ChR.of_below HB.out L [146, 109, 221] L T).grow hd4).trans F4.2⟩
  have BB : Hid (Blk (w.alloc (.cells (⟨13, a0, a1, a2, a3, a4, cw, bA, bn, bc⟩ : Cm).cs.toArray 35)) s 146 #[.pointer (some ⟨m, 0, none⟩), .pointer (some ⟨l, 0, none⟩), .bool x.on, .int .u8 x.area, .int .u32 x.pt, .int .i64 x.block] ∧ Blk (w.alloc (.cells (⟨13, a0, a1, a2, a3, a4, cw, bA, bn, bc⟩ : Cm).cs.toArray 35)) w.heap.size 35 #[.int .u8 13, .int .u8 a0, .int .u8 a1, .int .u8 a2, .int .u8 a3, .int .u8 a4, .int .u32 cw, .slice bA bn bc]) := Lib.hid ⟨HH.out.sl, Blk.new _ _ _⟩
  clear hsl hcc
  refine wp_region_held_drew (S := fun w' => Blk w' s 146 #[.pointer (some ⟨m, 0, none⟩), .pointer (some ⟨l, 0, none⟩), .bool x.on, .int .u8 x.area, .int .u32 x.pt, .int .i64 x.block] ∧ Blk w' w.heap.size 35 #[.int .u8 13, .int .u8 a0, .int .u8 a1, .int .u8 a2, .int .u8 a3, .int .u8 a4, .int .u32 cw, .slice bA bn bc]) (by kernel_rfl) (⟨BB.out.1.drew, BB.out.2.drew⟩) (fun hHeld => ?_)
  refine wpAnyH_take (i := 0) (oi := _) (v := ?_) rfl (by kernel_rfl) (by kernel_rfl) (by kernel_rfl) (fun _ _ _ h => h) (Or.inl ⟨by rfl, ?_⟩) (by assumption) ?_
  rotate_left
  · intro w' hSw
    have z1 := hSw.1.cell
    have z2 := hSw.2.cell
    go_simp
    first | done | with_reducible rfl
  try simp only [Act.put, List.setIfInBounds_toArray, List.set_cons_zero, List.set_cons_succ]
  refine wpAnyH_take (i := 1) (oi := _) (v := ?_) rfl (by kernel_rfl) (by kernel_rfl) (by kernel_rfl) (fun _ _ _ h => h) (Or.inl ⟨by rfl, ?_⟩) (by assumption) ?_
  rotate_left
  · intro w' hSw
    have z1 := hSw.1.cell
    have z2 := hSw.2.cell
    go_simp
    first | done | with_reducible rfl
  try simp only [Act.put, List.setIfInBounds_toArray, List.set_cons_zero, List.set_cons_succ]
  refine wpAnyH_take (i := 2) (oi := _) (v := ?_) rfl (by kernel_rfl) (by kernel_rfl) (by kernel_rfl) (fun _ _ _ h => h) (Or.inl ⟨by rfl, ?_⟩) (by assumption) ?_
  rotate_left
  · intro w' hSw
    have z1 := hSw.1.cell
    have z2 := hSw.2.cell
    go_simp
    first | done | with_reducible rfl
  try simp only [Act.put, List.setIfInBounds_toArray, List.set_cons_zero, List.set_cons_succ]
  refine wpAnyH_take (i := 3) (oi := _) (v := ?_) rfl (by kernel_rfl) (by kernel_rfl) (by kernel_rfl) (fun _ _ _ h => h) (Or.inl ⟨by rfl, ?_⟩) (by assumption) ?_
  rotate_left
  · intro w' hSw
    have z1 := hSw.1.cell
    have z2 := hSw.2.cell
    go_simp
    first | done | with_reducible rfl
  try simp only [Act.put, List.setIfInBounds_toArray, List.set_cons_zero, List.set_cons_succ]
  refine wpAnyH_take (i := 4) (oi := _) (v := ?_) rfl (by kernel_rfl) (by kernel_rfl) (by kernel_rfl) (fun _ _ _ h => h) (Or.inl ⟨by rfl, ?_⟩) (by assumption) ?_
  rotate_left
  · intro w' hSw
    have z1 := hSw.1.cell
    have z2 := hSw.2.cell
    go_simp
    first | done | with_reducible rfl
  try simp only [Act.put, List.setIfInBounds_toArray, List.set_cons_zero, List.set_cons_succ]
  refine wpAnyH_take (i := 5) (oi := _) (v := ?_) rfl (by kernel_rfl) (by kernel_rfl) (by kernel_rfl) (fun _ _ _ h => h) (Or.inl ⟨by rfl, ?_⟩) (by assumption) ?_
  rotate_left
  · intro w' hSw
    have z1 := hSw.1.cell
    have z2 := hSw.2.cell
    go_simp
    first | done | with_reducible rfl
  try simp only [Act.put, List.setIfInBounds_toArray, List.set_cons_zero, List.set_cons_succ]
  refine wpAnyH_take (i := 6) (oi := _) (v := ?_) rfl (by kernel_rfl) (by kernel_rfl) (by kernel_rfl) (fun _ _ _ h => h) (Or.inl ⟨by rfl, ?_⟩) (by assumption) ?_
  rotate_left
  · intro w' hSw
    have z1 := hSw.1.cell
    have z2 := hSw.2.cell
    go_simp
    first | done | with_reducible rfl
  try simp only [Act.put, List.setIfInBounds_toArray, List.set_cons_zero, List.set_cons_succ]
  refine wpAnyH_take (i := 7) (oi := _) (v := ?_) rfl (by kernel_rfl) (by kernel_rfl) (by kernel_rfl) (fun _ _ _ h => h) (Or.inl ⟨by rfl, ?_⟩) (by assumption) ?_
  rotate_left
  · intro w' hSw
    have z1 := hSw.1.cell
    have z2 := hSw.2.cell
    go_simp
    first | done | with_reducible rfl
  try simp only [Act.put, List.setIfInBounds_toArray, List.set_cons_zero, List.set_cons_succ]
  refine wpAnyH_take (i := 8) (oi := _) (v := ?_) rfl (by kernel_rfl) (by kernel_rfl) (by kernel_rfl) (fun _ _ _ h => h) (Or.inl ⟨by rfl, ?_⟩) (by assumption) ?_
  rotate_left
  · intro w' hSw
    have z1 := hSw.1.cell
    have z2 := hSw.2.cell
    go_simp
    first | done | with_reducible rfl
  try simp only [Act.put, List.setIfInBounds_toArray, List.set_cons_zero, List.set_cons_succ]
  refine wpAnyH_take (i := 9) (oi := _) (v := ?_) rfl (by kernel_rfl) (by kernel_rfl) (by kernel_rfl) (fun _ _ _ h => h) (Or.inl ⟨by rfl, ?_⟩) (by assumption) ?_
  rotate_left
  · intro w' hSw
    have z1 := hSw.1.cell
    have z2 := hSw.2.cell
    go_simp
    first | done | with_reducible rfl
  try simp only [Act.put, List.setIfInBounds_toArray, List.set_cons_zero, List.set_cons_succ]
  refine wpAnyH_ready (rs := [10]) (by kernel_rfl) (by simp) ?_
  refine AllReadyH.cons rfl (fun K hK => ?_) AllReadyH.nil
  go_simp
  refine UD1.out.mono ?_
  rintro e w4 ⟨rfl, hL4, hc4⟩
  refine hK.out _ _ ⟨hHeld.1.chT hc4 (by decide), hHeld.2.chT hc4 (by decide)⟩ (fun hHeld2 => ?_)
  try simp only [Act.put, List.setIfInBounds_toArray, List.set_cons_zero, List.set_cons_succ]
  refine wpAnyH_ready (rs := [11]) (by kernel_rfl) (by simp) ?_
  refine AllReadyH.cons rfl (fun K2 hK2 => ?_) AllReadyH.nil
  go_simp
  refine (MO.out _).mono ?_
  rintro e w5 ⟨rfl, rfl⟩
  exact ⟨rfl, rfl, FIN.out _ hL4 hc4⟩
end Go.Proofs.Yteecgdbicokgoaa
