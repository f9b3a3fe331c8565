/- The slave: write, left. -/
import Derived.Test.YteecgdbicokgoaaS1
import Derived.Deep.RegionHeld3
import Derived.Deep.RegionLaw
namespace Go.Proofs.Yteecgdbicokgoaa
open Go.RowKit
set_option linter.unusedVariables false
set_option linter.unusedSimpArgs false
set_option maxRecDepth 100000
set_option maxHeartbeats 4000000 in
theorem sl_write_lk {w : World} {L T N s m l : Nat} {x : St} (h : TA w L T N s m l x) {A : Option Addr} {n c : Nat} {b : List Int} (hn : b.length = n) (hn6 : n ≤ 1000000) (hr : Rd w w.heap.size A (u8s b)) (hA : A = none → n = 0 ∧ c = 0) (hz : bits .and .u8 x.a.shut 1 = 1) :
    Calls Try.prog 79 #[.pointer (some ⟨s, 0, none⟩), .slice A n c] w (FltS w L T s m l x 92) := by
  have U := Lib.hid (unlocked_bad h hz)
  have H := Lib.hid h
  clear h hr hz
  go_enter Try.func79, Try.ntmps79
  go_wp2_with fail
  refine U.out.mono ?_
  rintro e w1 ⟨rfl, rfl⟩
  exact ⟨rfl, rfl, H.out.more H.out.n (Nat.le_refl _), ChR.refl _ _ _ _ _⟩
set_option maxHeartbeats 4000000 in
theorem sl_write_bad {w : World} {L T N s m l : Nat} {x : St} (h : TA w L T N s m l x) {A : Option Addr} {n c : Nat} {b : List Int} (hn : b.length = n) (hn6 : n ≤ 1000000) (hr : Rd w w.heap.size A (u8s b)) (hA : A = none → n = 0 ∧ c = 0) (hz : bits .and .u8 x.a.shut 1 = 0) {M' : Mx} {f : Int} (hf : f ≠ 0) (hwr : writeX x.M 2 x.area x.pt.toNat b = (M', f)) :
    Calls Try.prog 79 #[.pointer (some ⟨s, 0, none⟩), .slice A n c] w (FltS w L T s m l { x with M := M' } f) := by
  have U := Lib.hid (unlocked_ok h hz)
  have H := Lib.hid h
  obtain ⟨p, hp⟩ : ∃ p : Nat, x.pt = p := ⟨x.pt.toNat, by have := h.k.p0; omega⟩
  have hp32 : p < 4294967296 := by have := h.k.p1; omega
  have WR := Lib.hid (fun w' (hb' : Below w.heap.size w w') => write_any ((h.below hb').mem) (.inr rfl) (area := x.area) ⟨h.k.a0, h.k.a1⟩ (pt := p) hp32 hn hn6 (hr.bel hb') hA)
  rw [show x.pt.toNat = p by omega] at hwr
  rw [hwr] at WR
  simp only [← hp] at WR
  have HP := Lib.hid hp
  have hB : Blk w s 146 #[.pointer (some ⟨m, 0, none⟩), .pointer (some ⟨l, 0, none⟩), .bool x.on, .int .u8 x.area, .int .u32 x.pt, .int .i64 x.block] := h.sl
  have MO := Lib.hid (fun w => must_bad f hf w)
  clear h hr hz hwr hp32 hp
  go_enter Try.func79, Try.ntmps79
  go_wp2_with fail
  refine U.out.mono ?_
  rintro e w1 ⟨rfl, rfl⟩
  go_upto_region 1 with fail
  have WR1 := Lib.hid (WR.out _ ((Below.refl w.heap.size w).drew))
  have HD := Lib.hid (H.out.below ((Below.refl w.heap.size w).drew))
  have CD := Lib.hid (ChR.of_below ((Below.refl w.heap.size w).drew) L [146, 109, 221] L T)
  refine wp_region_held_drew (S := fun w' => Blk w' s 146 #[.pointer (some ⟨m, 0, none⟩), .pointer (some ⟨l, 0, none⟩), .bool x.on, .int .u8 x.area, .int .u32 x.pt, .int .i64 x.block]) (by kernel_rfl) (Blk.drew hB) (fun hHeld => ?_)
  refine wpAnyH_take (i := 0) (oi := _) (v := ?_) rfl (by kernel_rfl) (by kernel_rfl) (by kernel_rfl) (fun _ _ _ h => h) (Or.inl ⟨by rfl, ?_⟩) (by assumption) ?_
  rotate_left
  · intro w' hSw
    have z0 := Blk.cell hSw
    go_simp
    first | done | with_reducible rfl
  try simp only [Act.put, List.setIfInBounds_toArray, List.set_cons_zero, List.set_cons_succ]
  refine wpAnyH_take (i := 1) (oi := _) (v := ?_) rfl (by kernel_rfl) (by kernel_rfl) (by kernel_rfl) (fun _ _ _ h => h) (Or.inl ⟨by rfl, ?_⟩) (by assumption) ?_
  rotate_left
  · intro w' hSw
    have z0 := Blk.cell hSw
    go_simp
    first | done | with_reducible rfl
  try simp only [Act.put, List.setIfInBounds_toArray, List.set_cons_zero, List.set_cons_succ]
  refine wpAnyH_take (i := 2) (oi := _) (v := ?_) rfl (by kernel_rfl) (by kernel_rfl) (by kernel_rfl) (fun _ _ _ h => h) (Or.inl ⟨by rfl, ?_⟩) (by assumption) ?_
  rotate_left
  · intro w' hSw
    have z0 := Blk.cell hSw
    go_simp
    first | done | with_reducible rfl
  try simp only [Act.put, List.setIfInBounds_toArray, List.set_cons_zero, List.set_cons_succ]
  refine wpAnyH_take (i := 3) (oi := _) (v := ?_) rfl (by kernel_rfl) (by kernel_rfl) (by kernel_rfl) (fun _ _ _ h => h) (Or.inl ⟨by rfl, ?_⟩) (by assumption) ?_
  rotate_left
  · intro w' hSw
    have z0 := Blk.cell hSw
    go_simp
    first | done | with_reducible rfl
  try simp only [Act.put, List.setIfInBounds_toArray, List.set_cons_zero, List.set_cons_succ]
  refine wpAnyH_take (i := 4) (oi := _) (v := ?_) rfl (by kernel_rfl) (by kernel_rfl) (by kernel_rfl) (fun _ _ _ h => h) (Or.inl ⟨by rfl, ?_⟩) (by assumption) ?_
  rotate_left
  · intro w' hSw
    have z0 := Blk.cell hSw
    go_simp
    first | done | with_reducible rfl
  try simp only [Act.put, List.setIfInBounds_toArray, List.set_cons_zero, List.set_cons_succ]
  refine wpAnyH_take (i := 5) (oi := _) (v := ?_) rfl (by kernel_rfl) (by kernel_rfl) (by kernel_rfl) (fun _ _ _ h => h) (Or.inl ⟨by rfl, ?_⟩) (by assumption) ?_
  rotate_left
  · intro w' hSw
    have z0 := Blk.cell hSw
    go_simp
    first | done | with_reducible rfl
  try simp only [Act.put, List.setIfInBounds_toArray, List.set_cons_zero, List.set_cons_succ]
  refine wpAnyH_take (i := 6) (oi := _) (v := ?_) rfl (by kernel_rfl) (by kernel_rfl) (by kernel_rfl) (fun _ _ _ h => h) (Or.inl ⟨by rfl, ?_⟩) (by assumption) ?_
  rotate_left
  · intro w' hSw
    have z0 := Blk.cell hSw
    go_simp
    first | done | with_reducible rfl
  try simp only [Act.put, List.setIfInBounds_toArray, List.set_cons_zero, List.set_cons_succ]
  refine wpAnyH_take (i := 7) (oi := _) (v := ?_) rfl (by kernel_rfl) (by kernel_rfl) (by kernel_rfl) (fun _ _ _ h => h) (Or.inl ⟨by rfl, ?_⟩) (by assumption) ?_
  rotate_left
  · intro w' hSw
    have z0 := Blk.cell hSw
    go_simp
    first | done | with_reducible rfl
  try simp only [Act.put, List.setIfInBounds_toArray, List.set_cons_zero, List.set_cons_succ]
  refine wpAnyH_take (i := 8) (oi := _) (v := ?_) rfl (by kernel_rfl) (by kernel_rfl) (by kernel_rfl) (fun _ _ _ h => h) (Or.inl ⟨by rfl, ?_⟩) (by assumption) ?_
  rotate_left
  · intro w' hSw
    have z0 := Blk.cell hSw
    go_simp
    first | done | with_reducible rfl
  try simp only [Act.put, List.setIfInBounds_toArray, List.set_cons_zero, List.set_cons_succ]
  refine wpAnyH_take (i := 9) (oi := _) (v := ?_) rfl (by kernel_rfl) (by kernel_rfl) (by kernel_rfl) (fun _ _ _ h => h) (Or.inl ⟨by rfl, ?_⟩) (by assumption) ?_
  rotate_left
  · intro w' hSw
    have z0 := Blk.cell hSw
    go_simp
    first | done | with_reducible rfl
  try simp only [Act.put, List.setIfInBounds_toArray, List.set_cons_zero, List.set_cons_succ]
  refine wpAnyH_take (i := 10) (oi := _) (v := ?_) rfl (by kernel_rfl) (by kernel_rfl) (by kernel_rfl) (fun _ _ _ h => h) (Or.inl ⟨by rfl, ?_⟩) (by assumption) ?_
  rotate_left
  · intro w' hSw
    have z0 := Blk.cell hSw
    go_simp
    first | done | with_reducible rfl
  try simp only [Act.put, List.setIfInBounds_toArray, List.set_cons_zero, List.set_cons_succ]
  refine wpAnyH_take (i := 11) (oi := _) (v := ?_) rfl (by kernel_rfl) (by kernel_rfl) (by kernel_rfl) (fun _ _ _ h => h) (Or.inl ⟨by rfl, ?_⟩) (by assumption) ?_
  rotate_left
  · intro w' hSw
    have z0 := Blk.cell hSw
    go_simp
    first | done | with_reducible rfl
  try simp only [Act.put, List.setIfInBounds_toArray, List.set_cons_zero, List.set_cons_succ]
  refine wpAnyH_take (i := 12) (oi := _) (v := ?_) rfl (by kernel_rfl) (by kernel_rfl) (by kernel_rfl) (fun _ _ _ h => h) (Or.inl ⟨by rfl, ?_⟩) (by assumption) ?_
  rotate_left
  · intro w' hSw
    have z0 := Blk.cell hSw
    go_simp
    first | done | with_reducible rfl
  try simp only [Act.put, List.setIfInBounds_toArray, List.set_cons_zero, List.set_cons_succ]
  refine wpAnyH_ready (rs := [13]) (by kernel_rfl) (by simp) ?_
  refine AllReadyH.cons rfl (fun K hK => ?_) AllReadyH.nil
  go_simp
  refine WR1.out.mono ?_
  rintro e w4 ⟨rfl, hM4, hc4⟩
  have F4 := Lib.hid (HD.out.memw hM4 hc4)
  refine hK.out _ _ (F4.out.1.sl) (fun hHeld2 => ?_)
  try simp only [Act.put, List.setIfInBounds_toArray, List.set_cons_zero, List.set_cons_succ]
  refine wpAnyH_ready (rs := [14]) (by kernel_rfl) (by simp) ?_
  refine AllReadyH.cons rfl (fun K2 hK2 => ?_) AllReadyH.nil
  go_simp
  refine (MO.out _).mono ?_
  rintro e w5 ⟨rfl, rfl⟩
  exact ⟨rfl, rfl, F4.out.1.more (F4.out.1.n) (Nat.le_refl _), CD.out.trans F4.out.2⟩
set_option maxHeartbeats 4000000 in
theorem sl_write_ok {w : World} {L T N s m l : Nat} {x : St} (h : TA w L T N s m l x) {A : Option Addr} {n c : Nat} {b : List Int} (hn : b.length = n) (hn6 : n ≤ 1000000) (hr : Rd w w.heap.size A (u8s b)) (hA : A = none → n = 0 ∧ c = 0) (hz : bits .and .u8 x.a.shut 1 = 0) {M' : Mx} {f : Int} (hf : f = 0) (hwr : writeX x.M 2 x.area x.pt.toNat b = (M', f)) :
    Calls Try.prog 79 #[.pointer (some ⟨s, 0, none⟩), .slice A n c] w fun e w' => e = .returned (.tuple #[]) ∧ TA w' L T w'.heap.size s m l { x with M := M', pt := (x.pt + n) % 4294967296 } ∧ ChS L T w w' := by
  have U := Lib.hid (unlocked_ok h hz)
  have H := Lib.hid h
  obtain ⟨p, hp⟩ : ∃ p : Nat, x.pt = p := ⟨x.pt.toNat, by have := h.k.p0; omega⟩
  have hp32 : p < 4294967296 := by have := h.k.p1; omega
  have WR := Lib.hid (fun w' (hb' : Below w.heap.size w w') => write_any ((h.below hb').mem) (.inr rfl) (area := x.area) ⟨h.k.a0, h.k.a1⟩ (pt := p) hp32 hn hn6 (hr.bel hb') hA)
  rw [show x.pt.toNat = p by omega] at hwr
  rw [hwr] at WR
  simp only [← hp] at WR
  have HP := Lib.hid hp
  have hB : Blk w s 146 #[.pointer (some ⟨m, 0, none⟩), .pointer (some ⟨l, 0, none⟩), .bool x.on, .int .u8 x.area, .int .u32 x.pt, .int .i64 x.block] := h.sl
  have MO := Lib.hid (fun w => must_ok w)
  clear h hr hz hwr hp32 hp
  go_enter Try.func79, Try.ntmps79
  go_wp2_with fail
  refine U.out.mono ?_
  rintro e w1 ⟨rfl, rfl⟩
  go_upto_region 1 with fail
  have WR1 := Lib.hid (WR.out _ ((Below.refl w.heap.size w).drew))
  have HD := Lib.hid (H.out.below ((Below.refl w.heap.size w).drew))
  have CD := Lib.hid (ChR.of_below ((Below.refl w.heap.size w).drew) L [146, 109, 221] L T)
  refine wp_region_held_drew (S := fun w' => Blk w' s 146 #[.pointer (some ⟨m, 0, none⟩), .pointer (some ⟨l, 0, none⟩), .bool x.on, .int .u8 x.area, .int .u32 x.pt, .int .i64 x.block]) (by kernel_rfl) (Blk.drew hB) (fun hHeld => ?_)
  refine wpAnyH_take (i := 0) (oi := _) (v := ?_) rfl (by kernel_rfl) (by kernel_rfl) (by kernel_rfl) (fun _ _ _ h => h) (Or.inl ⟨by rfl, ?_⟩) (by assumption) ?_
  rotate_left
  · intro w' hSw
    have z0 := Blk.cell hSw
    go_simp
    first | done | with_reducible rfl
  try simp only [Act.put, List.setIfInBounds_toArray, List.set_cons_zero, List.set_cons_succ]
  refine wpAnyH_take (i := 1) (oi := _) (v := ?_) rfl (by kernel_rfl) (by kernel_rfl) (by kernel_rfl) (fun _ _ _ h => h) (Or.inl ⟨by rfl, ?_⟩) (by assumption) ?_
  rotate_left
  · intro w' hSw
    have z0 := Blk.cell hSw
    go_simp
    first | done | with_reducible rfl
  try simp only [Act.put, List.setIfInBounds_toArray, List.set_cons_zero, List.set_cons_succ]
  refine wpAnyH_take (i := 2) (oi := _) (v := ?_) rfl (by kernel_rfl) (by kernel_rfl) (by kernel_rfl) (fun _ _ _ h => h) (Or.inl ⟨by rfl, ?_⟩) (by assumption) ?_
  rotate_left
  · intro w' hSw
    have z0 := Blk.cell hSw
    go_simp
    first | done | with_reducible rfl
  try simp only [Act.put, List.setIfInBounds_toArray, List.set_cons_zero, List.set_cons_succ]
  refine wpAnyH_take (i := 3) (oi := _) (v := ?_) rfl (by kernel_rfl) (by kernel_rfl) (by kernel_rfl) (fun _ _ _ h => h) (Or.inl ⟨by rfl, ?_⟩) (by assumption) ?_
  rotate_left
  · intro w' hSw
    have z0 := Blk.cell hSw
    go_simp
    first | done | with_reducible rfl
  try simp only [Act.put, List.setIfInBounds_toArray, List.set_cons_zero, List.set_cons_succ]
  refine wpAnyH_take (i := 4) (oi := _) (v := ?_) rfl (by kernel_rfl) (by kernel_rfl) (by kernel_rfl) (fun _ _ _ h => h) (Or.inl ⟨by rfl, ?_⟩) (by assumption) ?_
  rotate_left
  · intro w' hSw
    have z0 := Blk.cell hSw
    go_simp
    first | done | with_reducible rfl
  try simp only [Act.put, List.setIfInBounds_toArray, List.set_cons_zero, List.set_cons_succ]
  refine wpAnyH_take (i := 5) (oi := _) (v := ?_) rfl (by kernel_rfl) (by kernel_rfl) (by kernel_rfl) (fun _ _ _ h => h) (Or.inl ⟨by rfl, ?_⟩) (by assumption) ?_
  rotate_left
  · intro w' hSw
    have z0 := Blk.cell hSw
    go_simp
    first | done | with_reducible rfl
  try simp only [Act.put, List.setIfInBounds_toArray, List.set_cons_zero, List.set_cons_succ]
  refine wpAnyH_take (i := 6) (oi := _) (v := ?_) rfl (by kernel_rfl) (by kernel_rfl) (by kernel_rfl) (fun _ _ _ h => h) (Or.inl ⟨by rfl, ?_⟩) (by assumption) ?_
  rotate_left
  · intro w' hSw
    have z0 := Blk.cell hSw
    go_simp
    first | done | with_reducible rfl
  try simp only [Act.put, List.setIfInBounds_toArray, List.set_cons_zero, List.set_cons_succ]
  refine wpAnyH_take (i := 7) (oi := _) (v := ?_) rfl (by kernel_rfl) (by kernel_rfl) (by kernel_rfl) (fun _ _ _ h => h) (Or.inl ⟨by rfl, ?_⟩) (by assumption) ?_
  rotate_left
  · intro w' hSw
    have z0 := Blk.cell hSw
    go_simp
    first | done | with_reducible rfl
  try simp only [Act.put, List.setIfInBounds_toArray, List.set_cons_zero, List.set_cons_succ]
  refine wpAnyH_take (i := 8) (oi := _) (v := ?_) rfl (by kernel_rfl) (by kernel_rfl) (by kernel_rfl) (fun _ _ _ h => h) (Or.inl ⟨by rfl, ?_⟩) (by assumption) ?_
  rotate_left
  · intro w' hSw
    have z0 := Blk.cell hSw
    go_simp
    first | done | with_reducible rfl
  try simp only [Act.put, List.setIfInBounds_toArray, List.set_cons_zero, List.set_cons_succ]
  refine wpAnyH_take (i := 9) (oi := _) (v := ?_) rfl (by kernel_rfl) (by kernel_rfl) (by kernel_rfl) (fun _ _ _ h => h) (Or.inl ⟨by rfl, ?_⟩) (by assumption) ?_
  rotate_left
  · intro w' hSw
    have z0 := Blk.cell hSw
    go_simp
    first | done | with_reducible rfl
  try simp only [Act.put, List.setIfInBounds_toArray, List.set_cons_zero, List.set_cons_succ]
  refine wpAnyH_take (i := 10) (oi := _) (v := ?_) rfl (by kernel_rfl) (by kernel_rfl) (by kernel_rfl) (fun _ _ _ h => h) (Or.inl ⟨by rfl, ?_⟩) (by assumption) ?_
  rotate_left
  · intro w' hSw
    have z0 := Blk.cell hSw
    go_simp
    first | done | with_reducible rfl
  try simp only [Act.put, List.setIfInBounds_toArray, List.set_cons_zero, List.set_cons_succ]
  refine wpAnyH_take (i := 11) (oi := _) (v := ?_) rfl (by kernel_rfl) (by kernel_rfl) (by kernel_rfl) (fun _ _ _ h => h) (Or.inl ⟨by rfl, ?_⟩) (by assumption) ?_
  rotate_left
  · intro w' hSw
    have z0 := Blk.cell hSw
    go_simp
    first | done | with_reducible rfl
  try simp only [Act.put, List.setIfInBounds_toArray, List.set_cons_zero, List.set_cons_succ]
  refine wpAnyH_take (i := 12) (oi := _) (v := ?_) rfl (by kernel_rfl) (by kernel_rfl) (by kernel_rfl) (fun _ _ _ h => h) (Or.inl ⟨by rfl, ?_⟩) (by assumption) ?_
  rotate_left
  · intro w' hSw
    have z0 := Blk.cell hSw
    go_simp
    first | done | with_reducible rfl
  try simp only [Act.put, List.setIfInBounds_toArray, List.set_cons_zero, List.set_cons_succ]
  refine wpAnyH_ready (rs := [13]) (by kernel_rfl) (by simp) ?_
  refine AllReadyH.cons rfl (fun K hK => ?_) AllReadyH.nil
  go_simp
  refine WR1.out.mono ?_
  rintro e w4 ⟨rfl, hM4, hc4⟩
  have F4 := Lib.hid (HD.out.memw hM4 hc4)
  refine hK.out _ _ (F4.out.1.sl) (fun hHeld2 => ?_)
  try simp only [Act.put, List.setIfInBounds_toArray, List.set_cons_zero, List.set_cons_succ]
  refine wpAnyH_ready (rs := [14]) (by kernel_rfl) (by simp) ?_
  refine AllReadyH.cons rfl (fun K2 hK2 => ?_) AllReadyH.nil
  go_simp
  try rw [hf]
  refine (MO.out _).mono ?_
  rintro e w5 ⟨rfl, rfl⟩
  refine hK2.out _ _ (F4.out.1.sl) (fun hHeld3 => ?_)
  refine wpAnyH_done (by kernel_rfl) ?_ _
  try simp only [Act.put, List.setIfInBounds_toArray, List.set_cons_zero, List.set_cons_succ]
  have hB4 : Blk w4 s 146 #[.pointer (some ⟨m, 0, none⟩), .pointer (some ⟨l, 0, none⟩), .bool x.on, .int .u8 x.area, .int .u32 x.pt, .int .i64 x.block] := F4.out.1.sl
  have hc4 := hB4.cell
  have hwn : IntKind.u32.wrap (n : Int) = n := by rw [IntKind.wrap_u32]; omega
  have hwp : IntKind.u32.wrap (x.pt + (n : Int)) = (x.pt + n) % 4294967296 := by rw [IntKind.wrap_u32]
  obtain ⟨P2, hP2⟩ : ∃ P2, (x.pt + (n : Int)) % 4294967296 = P2 := ⟨_, rfl⟩
  have HP2 : Hid (0 ≤ P2 ∧ P2 < 4294967296) := Lib.hid (by omega)
  rw [hP2] at hwp
  have HPP := Lib.hid hP2
  clear hP2
  go_wp2_with (refine wpList_stB rfl 33 (.tmp 30) (.tmp 28) rfl (.int .u32 P2) 4 rfl rfl hB4 (by simp [Value.cells]) (by kernel_rfl) (by simp [Value.cells, Value.oneCell']) ?_; intro w6 B6 hg6)
  have B6 : Blk w6 s 146 #[.pointer (some ⟨m, 0, none⟩), .pointer (some ⟨l, 0, none⟩), .bool x.on, .int .u8 x.area, .int .u32 P2, .int .i64 x.block] := B6
  obtain ⟨H6, C6⟩ := F4.out.1.slw (y := { x with M := M', pt := P2 }) ⟨rfl, rfl⟩ ⟨H.out.k.a0, H.out.k.a1, HP2.out.1, HP2.out.2⟩ B6 hg6
  go_end0
  rw [HPP.out]
  exact ⟨rfl, H6.more H6.n (Nat.le_refl _), (CD.out.trans F4.out.2).trans C6⟩
theorem sl_left0 {w : World} {L T N s m l : Nat} {x : St} (h : TA w L T N s m l x) {n : Int} (hn : n ≤ 0) (hn2 : -1000 ≤ n) :
    Calls Try.prog 80 #[.pointer (some ⟨s, 0, none⟩), .int .i64 n] w (AnsS w L T s m l { x with block := 0 } []) := by
  have H := Lib.hid h
  have hB : Blk w s 146 #[.pointer (some ⟨m, 0, none⟩), .pointer (some ⟨l, 0, none⟩), .bool x.on, .int .u8 x.area, .int .u32 x.pt, .int .i64 x.block] := h.sl
  have hc := hB.cell
  have PS := Lib.hid (fun w => pos_any none 0 0 w)
  clear h
  rcases (by omega : n = 0 ∨ n < 0) with rfl | h0
  all_goals
    go_enter Try.func80, Try.ntmps80
    go_wp2_with (refine wpList_stB rfl 3 (.tmp 9) (.tmp 7) rfl (.int .i64 0) 5 rfl (by first | rfl | simp) hB (by simp [Value.cells]) (by kernel_rfl) (by simp [Value.cells, Value.oneCell']) ?_; intro w6 B6 hg6; have B6 : Blk w6 s 146 #[.pointer (some ⟨m, 0, none⟩), .pointer (some ⟨l, 0, none⟩), .bool x.on, .int .u8 x.area, .int .u32 x.pt, .int .i64 0] := B6; have b6 := B6.cell)
    obtain ⟨H6, C6⟩ := H.out.slw (y := { x with block := 0 }) ⟨rfl, rfl⟩ ⟨H.out.k.a0, H.out.k.a1, H.out.k.p0, H.out.k.p1⟩ B6 hg6
    have PL := Lib.hid (PosP.own (w := w) (w5 := w6) hg6.size (bs := []) rfl (Own.nil _ _ _ _))
    have H6' := Lib.hid H6
    have C6' := Lib.hid C6
    clear H6 C6 hg6 B6 b6
    refine (PS.out _).mono ?_
    rintro e w7 ⟨rfl, rfl⟩
    have FB := Lib.hid (bl1 w6 (.cells #[.int .u8 1, .int .u8 0, .slice none 0 0] 82))
    go_wp2_with fail
    go_ret
    exact ⟨_, rfl, PL.out, (H6'.out.below FB.out).more (by have := H6'.out.n; have := FB.out.size; omega) (Nat.le_refl _), C6'.out.grow FB.out⟩
end Go.Proofs.Yteecgdbicokgoaa
