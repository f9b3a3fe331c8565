/- The slave's session: Connect, SetMta. -/
import Derived.Test.YteecgdbicokgoaaS0
import Derived.Test.YteecgdbicokgoaaG1b
import Derived.Test.YteecgdbicokgoaaChain
namespace Go.Proofs.Yteecgdbicokgoaa
open Go.RowKit
set_option linter.unusedVariables false
set_option linter.unusedSimpArgs false
set_option maxRecDepth 100000
/-- A positive answer of these bytes, in blocks of its own. -/
def PosP (w : World) (bs : List Int) (v : Value) (w' : World) : Prop := ∃ g A c, v = .slice (some ⟨g, 0, none⟩) 1 1 ∧ w.heap.size ≤ g ∧ Blk w' g 82 #[.int .u8 1, .int .u8 0, .slice A bs.length c] ∧ Own w' w.heap.size 5 1 A bs.length c (u8s bs)
/-- A command's answer by a function that does one: done, or a fault. -/
def AnsS (w : World) (L T s m l : Nat) (x : St) (bs : List Int) (e : Ending) (w' : World) : Prop := ∃ v, e = .returned v ∧ PosP w bs v w' ∧ TA w' L T w'.heap.size s m l x ∧ ChS L T w w'
def FltS (w : World) (L T s m l : Nat) (x : St) (f : Int) (e : Ending) (w' : World) : Prop := e = .panicked (faultE f) ∧ TA w' L T w'.heap.size s m l x ∧ ChS L T w w'
theorem grown_two {w w1 w2 : World} {g : Nat} (h : w.grownBy w1 (some g)) (k : w1.grownBy w2 (some g)) : w.grownBy w2 (some g) :=
  ⟨k.os.trans h.os, k.tape.trans h.tape, k.output.trans h.output, Nat.le_trans h.size k.size, fun i hi hne => (k.block i (Nat.lt_of_lt_of_le hi h.size) hne).trans (h.block i hi hne)⟩
theorem PosP.own {w w5 : World} (hz : w.heap.size ≤ w5.heap.size) {bs : List Int} {A : Option Addr} {c n : Nat} (hn : bs.length = n) (hO : Own w5 w.heap.size 5 1 A n c (u8s bs)) : PosP w bs (.slice (some ⟨w5.heap.size, 0, none⟩) 1 1) (w5.alloc (.cells #[.int .u8 1, .int .u8 0, .slice A n c] 82)) := by
  subst hn
  exact ⟨w5.heap.size, A, c, rfl, hz, Blk.new _ _ _, hO.below (bl1 _ _)⟩
theorem PosP.lit {w w5 : World} (hz : w.heap.size ≤ w5.heap.size) (bs : List Int) (n : Nat) (hn : bs.length = n) (hm : n ≤ maxLen) {cs : Array Value} (hcs : cs = (u8s bs).toArray) :
    PosP w bs (.slice (some ⟨(w5.alloc (.cells cs 5)).heap.size, 0, none⟩) 1 1) ((w5.alloc (.cells cs 5)).alloc (.cells #[.int .u8 1, .int .u8 0, .slice (some ⟨w5.heap.size, 0, none⟩) n n] 82)) := by
  subst hcs
  refine PosP.own (by rw [World.size_alloc]; omega) hn ?_
  have ho := Own.made (e := 5) (size := 1) w5 (Nat.le_refl _) (u8s bs).toArray n n (Nat.le_refl _) hm (by simp [hn])
  have e : List.take (n * 1) (u8s bs).toArray.toList = u8s bs := List.take_of_length_le (by simp [hn])
  rw [e] at ho
  exact ho.more hz
set_option maxHeartbeats 2000000 in
theorem ses_connect {w : World} {L T N s m l : Nat} {x : St} (h : TA w L T N s m l x) (c : Cm) (hc : c.code = 1) (v : Value) :
    Calls Try.prog 85 #[.pointer (some ⟨s, 0, none⟩), c.val, v] w (AnsS w L T s m l { x with on := true, area := 0, pt := 0, a := ⟨x.a.all, x.a.all, none⟩ } [13, 8, 8]) := by
  have hb := bl1 w (.cells c.cs.toArray 35)
  have hcc := (Blk.new w 35 c.cs.toArray).cell
  have H1 := h.below hb
  have B1 : Blk (w.alloc (.cells c.cs.toArray 35)) s 146 #[.pointer (some ⟨m, 0, none⟩), .pointer (some ⟨l, 0, none⟩), .bool x.on, .int .u8 x.area, .int .u32 x.pt, .int .i64 x.block] := H1.sl
  have HH := Lib.hid H1
  have HB := Lib.hid hb
  obtain ⟨code, a0, a1, a2, a3, a4, cw, bA, bn, bc⟩ := c
  simp only at hc
  subst hc
  clear h hb H1
  go_enter Try.func85, Try.ntmps85
  go_wp2_with (first
    | (refine wpList_stB rfl 4 (.tmp 18) (.const (.bool true)) rfl (.bool true) 2 rfl rfl B1 (by simp [Value.cells]) (by kernel_rfl) (by simp [Value.cells, Value.oneCell']) ?_; intro w2 B2 hg2; have B2 : Blk w2 s 146 #[.pointer (some ⟨m, 0, none⟩), .pointer (some ⟨l, 0, none⟩), .bool true, .int .u8 x.area, .int .u32 x.pt, .int .i64 x.block] := B2)
    | (refine wpList_stB rfl 5 (.tmp 20) (.const (.int .u8 0)) rfl (.int .u8 0) 3 rfl rfl B2 (by simp [Value.cells]) (by kernel_rfl) (by simp [Value.cells, Value.oneCell']) ?_; intro w3 B3 hg3; have B3 : Blk w3 s 146 #[.pointer (some ⟨m, 0, none⟩), .pointer (some ⟨l, 0, none⟩), .bool true, .int .u8 0, .int .u32 x.pt, .int .i64 x.block] := B3)
    | (refine wpList_stB rfl 33 (.tmp 22) (.const (.int .u32 0)) rfl (.int .u32 0) 4 rfl rfl B3 (by simp [Value.cells]) (by kernel_rfl) (by simp [Value.cells, Value.oneCell']) ?_; intro w4 B4 hg4; have B4 : Blk w4 s 146 #[.pointer (some ⟨m, 0, none⟩), .pointer (some ⟨l, 0, none⟩), .bool true, .int .u8 0, .int .u32 0, .int .i64 x.block] := B4; have b4 := B4.cell))
  have hg := grown_two (grown_two hg2 hg3) hg4
  obtain ⟨H4, C4⟩ := HH.out.slw (y := { x with on := true, area := 0, pt := 0 }) ⟨rfl, rfl⟩ ⟨Int.le_refl _, by show (0 : Int) < 256; decide, Int.le_refl _, by show (0 : Int) < 4294967296; decide⟩ B4 hg
  have RL := Lib.hid (relock_any H4.lk)
  have H4' := Lib.hid H4
  have C4' := Lib.hid C4
  clear H4 C4 hg B2 B3 B4 hg2 hg3 hg4 b4
  refine RL.out.mono ?_
  rintro e w5 ⟨rfl, hl5, hc5⟩
  obtain ⟨H5, C5⟩ := H4'.out.lock (N' := N) hl5 (fun i hi => hi) (Nat.le_trans H4'.out.n hc5.size) hc5
  have H5' := Lib.hid H5
  have C5' := Lib.hid (((ChR.of_below HB.out _ _ _ _).trans C4'.out).trans C5)
  clear H5 C5 hl5 hc5
  have PS := Lib.hid (fun w => pos_any (some ⟨w5.heap.size, 0, none⟩) 3 3 w)
  have hz5 : w.heap.size ≤ w5.heap.size := C5'.out.size
  have PL := Lib.hid (PosP.lit hz5 [13, 8, 8] 3 rfl (by decide) (cs := #[.int .u8 13, .int .u8 8, .int .u8 8]) rfl)
  go_wp2_with fail
  refine (PS.out _).mono ?_
  rintro e w6 ⟨rfl, rfl⟩
  have FB := Lib.hid (bl2 w5 (.cells #[.int .u8 13, .int .u8 8, .int .u8 8] 5) (.cells #[.int .u8 1, .int .u8 0, .slice (some ⟨w5.heap.size, 0, none⟩) 3 3] 82))
  go_wp2_with fail
  go_ret
  refine ⟨_, rfl, ?_, (H5'.out.below FB.out).more (by have := H5'.out.n; have := FB.out.size; omega) (Nat.le_refl _), C5'.out.grow FB.out⟩
  have := PL.out
  rw [World.size_alloc] at this
  exact this
set_option maxHeartbeats 4000000 in
theorem ses_mta {w : World} {L T N s m l : Nat} {x : St} (h : TA w L T N s m l x) (c : Cm) (hw : c.wf) (hc : c.code = 5) (v : Value) :
    Calls Try.prog 85 #[.pointer (some ⟨s, 0, none⟩), c.val, v] w (AnsS w L T s m l { x with area := c.a0, pt := c.w } []) := by
  have hb := bl1 w (.cells c.cs.toArray 35)
  have hcc := (Blk.new w 35 c.cs.toArray).cell
  have H1 := h.below hb
  have B1 : Blk (w.alloc (.cells c.cs.toArray 35)) s 146 #[.pointer (some ⟨m, 0, none⟩), .pointer (some ⟨l, 0, none⟩), .bool x.on, .int .u8 x.area, .int .u32 x.pt, .int .i64 x.block] := H1.sl
  have hBC := Blk.new w 35 c.cs.toArray
  have HB := Lib.hid hb
  have HW := Lib.hid hw
  have hne : w.heap.size ≠ s := fun e => by have := h.sl.lt; omega
  obtain ⟨code, a0, a1, a2, a3, a4, cw, bA, bn, bc⟩ := c
  simp only at hc
  subst hc
  clear h hb hw
  go_enter Try.func85, Try.ntmps85
  go_upto_region 13 with fail
  refine wp_named fun W hW => ?_
  obtain ⟨cb, hcb⟩ : ∃ cb, w.heap.size = cb := ⟨_, rfl⟩
  have BC : Blk W cb 35 #[.int .u8 5, .int .u8 a0, .int .u8 a1, .int .u8 a2, .int .u8 a3, .int .u8 a4, .int .u32 cw, .slice bA bn bc] := by rw [hW, ← hcb]; exact hBC
  have B1 : Blk W s 146 #[.pointer (some ⟨m, 0, none⟩), .pointer (some ⟨l, 0, none⟩), .bool x.on, .int .u8 x.area, .int .u32 x.pt, .int .i64 x.block] := by rw [hW]; exact B1
  have HH : Hid (TA W L T N s m l x) := Lib.hid (by rw [hW]; exact H1)
  have HB : Hid (Below w.heap.size w W) := Lib.hid (by rw [hW]; exact HB.out)
  rw [hcb] at hne ⊢
  clear hW hBC H1 hcc
  have HRR : ∀ k w', (fun k w' => Blk w' cb 35 #[.int .u8 5, .int .u8 a0, .int .u8 a1, .int .u8 a2, .int .u8 a3, .int .u8 a4, .int .u32 cw, .slice bA bn bc] ∧ Blk w' s 146 #[.pointer (some ⟨m, 0, none⟩), .pointer (some ⟨l, 0, none⟩), .bool x.on, .int .u8 (if k = 0 then x.area else a0), .int .u32 (if k = 2 then cw else x.pt), .int .i64 x.block] ∧ W.grownBy w' (some s)) k w' → ∀ i, w'.cell? ⟨cb, i, none⟩ = (#[.int .u8 5, .int .u8 a0, .int .u8 a1, .int .u8 a2, .int .u8 a3, .int .u8 a4, .int .u32 cw, .slice bA bn bc] : Array Value)[i]? := fun k w' h => h.1.cell
  refine wp_region_s [9, 12] (fun k w' => Blk w' cb 35 #[.int .u8 5, .int .u8 a0, .int .u8 a1, .int .u8 a2, .int .u8 a3, .int .u8 a4, .int .u32 cw, .slice bA bn bc] ∧ Blk w' s 146 #[.pointer (some ⟨m, 0, none⟩), .pointer (some ⟨l, 0, none⟩), .bool x.on, .int .u8 (if k = 0 then x.area else a0), .int .u32 (if k = 2 then cw else x.pt), .int .i64 x.block] ∧ W.grownBy w' (some s)) (by kernel_rfl) (by kernel_rfl) (⟨BC.drew, B1.drew, ⟨rfl, rfl, rfl, Nat.le_refl _, fun _ _ _ => rfl⟩⟩) ?_
  first
    | (refine wpS_skip (by rfl) (by rfl) ?_; try simp only [Act.put, List.setIfInBounds_toArray, List.set_cons_zero, List.set_cons_succ, Nat.reduceAdd])
    | (refine wpS_val (v := ?_) HRR (by rfl) (by rfl) ?_ ?_; rotate_left; · (intro w' hS; go_simp; first | done | with_reducible rfl)
       try simp only [Act.put, List.setIfInBounds_toArray, List.set_cons_zero, List.set_cons_succ, Nat.reduceAdd])
  first
    | (refine wpS_skip (by rfl) (by rfl) ?_; try simp only [Act.put, List.setIfInBounds_toArray, List.set_cons_zero, List.set_cons_succ, Nat.reduceAdd])
    | (refine wpS_val (v := ?_) HRR (by rfl) (by rfl) ?_ ?_; rotate_left; · (intro w' hS; go_simp; first | done | with_reducible rfl)
       try simp only [Act.put, List.setIfInBounds_toArray, List.set_cons_zero, List.set_cons_succ, Nat.reduceAdd])
  first
    | (refine wpS_skip (by rfl) (by rfl) ?_; try simp only [Act.put, List.setIfInBounds_toArray, List.set_cons_zero, List.set_cons_succ, Nat.reduceAdd])
    | (refine wpS_val (v := ?_) HRR (by rfl) (by rfl) ?_ ?_; rotate_left; · (intro w' hS; go_simp; first | done | with_reducible rfl)
       try simp only [Act.put, List.setIfInBounds_toArray, List.set_cons_zero, List.set_cons_succ, Nat.reduceAdd])
  first
    | (refine wpS_skip (by rfl) (by rfl) ?_; try simp only [Act.put, List.setIfInBounds_toArray, List.set_cons_zero, List.set_cons_succ, Nat.reduceAdd])
    | (refine wpS_val (v := ?_) HRR (by rfl) (by rfl) ?_ ?_; rotate_left; · (intro w' hS; go_simp; first | done | with_reducible rfl)
       try simp only [Act.put, List.setIfInBounds_toArray, List.set_cons_zero, List.set_cons_succ, Nat.reduceAdd])
  first
    | (refine wpS_skip (by rfl) (by rfl) ?_; try simp only [Act.put, List.setIfInBounds_toArray, List.set_cons_zero, List.set_cons_succ, Nat.reduceAdd])
    | (refine wpS_val (v := ?_) HRR (by rfl) (by rfl) ?_ ?_; rotate_left; · (intro w' hS; go_simp; first | done | with_reducible rfl)
       try simp only [Act.put, List.setIfInBounds_toArray, List.set_cons_zero, List.set_cons_succ, Nat.reduceAdd])
  first
    | (refine wpS_skip (by rfl) (by rfl) ?_; try simp only [Act.put, List.setIfInBounds_toArray, List.set_cons_zero, List.set_cons_succ, Nat.reduceAdd])
    | (refine wpS_val (v := ?_) HRR (by rfl) (by rfl) ?_ ?_; rotate_left; · (intro w' hS; go_simp; first | done | with_reducible rfl)
       try simp only [Act.put, List.setIfInBounds_toArray, List.set_cons_zero, List.set_cons_succ, Nat.reduceAdd])
  first
    | (refine wpS_skip (by rfl) (by rfl) ?_; try simp only [Act.put, List.setIfInBounds_toArray, List.set_cons_zero, List.set_cons_succ, Nat.reduceAdd])
    | (refine wpS_val (v := ?_) HRR (by rfl) (by rfl) ?_ ?_; rotate_left; · (intro w' hS; go_simp; first | done | with_reducible rfl)
       try simp only [Act.put, List.setIfInBounds_toArray, List.set_cons_zero, List.set_cons_succ, Nat.reduceAdd])
  first
    | (refine wpS_skip (by rfl) (by rfl) ?_; try simp only [Act.put, List.setIfInBounds_toArray, List.set_cons_zero, List.set_cons_succ, Nat.reduceAdd])
    | (refine wpS_val (v := ?_) HRR (by rfl) (by rfl) ?_ ?_; rotate_left; · (intro w' hS; go_simp; first | done | with_reducible rfl)
       try simp only [Act.put, List.setIfInBounds_toArray, List.set_cons_zero, List.set_cons_succ, Nat.reduceAdd])
  first
    | (refine wpS_skip (by rfl) (by rfl) ?_; try simp only [Act.put, List.setIfInBounds_toArray, List.set_cons_zero, List.set_cons_succ, Nat.reduceAdd])
    | (refine wpS_val (v := ?_) HRR (by rfl) (by rfl) ?_ ?_; rotate_left; · (intro w' hS; go_simp; first | done | with_reducible rfl)
       try simp only [Act.put, List.setIfInBounds_toArray, List.set_cons_zero, List.set_cons_succ, Nat.reduceAdd])
  refine wpS_step (v := undef) 0 (by kernel_rfl) rfl (by intro p hp; first | omega | (obtain rfl : p = 0 := (by omega); exact ⟨_, rfl, by kernel_rfl⟩)) (of_decide_eq_true (by kernel_rfl)) (fun w' hS => .inl ⟨by rfl, ?_⟩) (fun _ => rfl) ?_
  · have hS' : Blk w' cb 35 #[.int .u8 5, .int .u8 a0, .int .u8 a1, .int .u8 a2, .int .u8 a3, .int .u8 a4, .int .u32 cw, .slice bA bn bc] ∧ Blk w' s 146 #[.pointer (some ⟨m, 0, none⟩), .pointer (some ⟨l, 0, none⟩), .bool x.on, .int .u8 x.area, .int .u32 x.pt, .int .i64 x.block] ∧ W.grownBy w' (some s) := hS
    refine wp_stB 5 (.tmp 54) (.tmp 50) rfl (.int .u8 a0) 3 rfl rfl hS'.2.1 (by simp [Value.cells]) (by kernel_rfl) (by simp [Value.cells, Value.oneCell']) (fun w'' h2 h3 => ⟨rfl, ?_⟩)
    exact ⟨hS'.1.grown h3 (by intro e; injection e with e; exact hne e), h2, grown_two hS'.2.2 h3⟩
  try simp only [Act.put, List.setIfInBounds_toArray, List.set_cons_zero, List.set_cons_succ, Nat.reduceAdd]
  first
    | (refine wpS_skip (by rfl) (by rfl) ?_; try simp only [Act.put, List.setIfInBounds_toArray, List.set_cons_zero, List.set_cons_succ, Nat.reduceAdd])
    | (refine wpS_val (v := ?_) HRR (by rfl) (by rfl) ?_ ?_; rotate_left; · (intro w' hS; go_simp; first | done | with_reducible rfl)
       try simp only [Act.put, List.setIfInBounds_toArray, List.set_cons_zero, List.set_cons_succ, Nat.reduceAdd])
  first
    | (refine wpS_skip (by rfl) (by rfl) ?_; try simp only [Act.put, List.setIfInBounds_toArray, List.set_cons_zero, List.set_cons_succ, Nat.reduceAdd])
    | (refine wpS_val (v := ?_) HRR (by rfl) (by rfl) ?_ ?_; rotate_left; · (intro w' hS; go_simp; first | done | with_reducible rfl)
       try simp only [Act.put, List.setIfInBounds_toArray, List.set_cons_zero, List.set_cons_succ, Nat.reduceAdd])
  refine wpS_step (v := undef) 1 (by kernel_rfl) rfl (by intro p hp; first | omega | (obtain rfl : p = 0 := (by omega); exact ⟨_, rfl, by kernel_rfl⟩)) (of_decide_eq_true (by kernel_rfl)) (fun w' hS => .inl ⟨by rfl, ?_⟩) (fun _ => rfl) ?_
  · have hS' : Blk w' cb 35 #[.int .u8 5, .int .u8 a0, .int .u8 a1, .int .u8 a2, .int .u8 a3, .int .u8 a4, .int .u32 cw, .slice bA bn bc] ∧ Blk w' s 146 #[.pointer (some ⟨m, 0, none⟩), .pointer (some ⟨l, 0, none⟩), .bool x.on, .int .u8 a0, .int .u32 x.pt, .int .i64 x.block] ∧ W.grownBy w' (some s) := hS
    refine wp_stB 33 (.tmp 56) (.tmp 52) rfl (.int .u32 cw) 4 rfl rfl hS'.2.1 (by simp [Value.cells]) (by kernel_rfl) (by simp [Value.cells, Value.oneCell']) (fun w'' h2 h3 => ⟨rfl, ?_⟩)
    exact ⟨hS'.1.grown h3 (by intro e; injection e with e; exact hne e), h2, grown_two hS'.2.2 h3⟩
  try simp only [Act.put, List.setIfInBounds_toArray, List.set_cons_zero, List.set_cons_succ, Nat.reduceAdd]
  refine wpS_done (by kernel_rfl) (fun w4 hS => ?_)
  have hS4 : Blk w4 cb 35 #[.int .u8 5, .int .u8 a0, .int .u8 a1, .int .u8 a2, .int .u8 a3, .int .u8 a4, .int .u32 cw, .slice bA bn bc] ∧ Blk w4 s 146 #[.pointer (some ⟨m, 0, none⟩), .pointer (some ⟨l, 0, none⟩), .bool x.on, .int .u8 a0, .int .u32 cw, .int .i64 x.block] ∧ W.grownBy w4 (some s) := hS
  obtain ⟨H4, C4⟩ := HH.out.slw (y := { x with area := a0, pt := cw }) ⟨rfl, rfl⟩ ⟨HW.out.h0.1, HW.out.h0.2, HW.out.w0, HW.out.w1⟩ hS4.2.1 hS4.2.2
  have H4' := Lib.hid H4
  have C4' := Lib.hid ((ChR.of_below HB.out _ _ _ _).trans C4)
  have PS := Lib.hid (fun w => pos_any none 0 0 w)
  have hz4 : w.heap.size ≤ w4.heap.size := C4'.out.size
  have PL := Lib.hid (PosP.own hz4 (bs := []) rfl (Own.nil _ _ _ _))
  clear hS hS4 H4 C4 HRR
  go_wp2_with fail
  refine (PS.out _).mono ?_
  rintro e w6 ⟨rfl, rfl⟩
  have FB := Lib.hid (bl1 w4 (.cells #[.int .u8 1, .int .u8 0, .slice none 0 0] 82))
  go_wp2_with fail
  go_ret
  exact ⟨_, rfl, PL.out, (H4'.out.below FB.out).more (by have := H4'.out.n; have := FB.out.size; omega) (Nat.le_refl _), C4'.out.grow FB.out⟩
end Go.Proofs.Yteecgdbicokgoaa
