/- The slave: ShortUp. -/
import Derived.Test.YteecgdbicokgoaaR1
import Derived.Test.YteecgdbicokgoaaS5
namespace Go.Proofs.Yteecgdbicokgoaa
open Go.RowKit Go.Shelf
set_option linter.unusedVariables false
set_option linter.unusedSimpArgs false
set_option maxRecDepth 100000
attribute [local go_sem] Oper.semAt_some
theorem PosQ.from_ {w w1 w' : World} {bs : List Int} {v : Value} (hz : w.heap.size ≤ w1.heap.size) (h : PosQ w1 bs v w') : PosQ w bs v w' := by
  obtain ⟨g, o, k, A, c, h1, h2, h3⟩ := h
  exact ⟨g, o, k, A, c, h1, h2.more hz, h3.more hz⟩
set_option maxHeartbeats 4000000 in
theorem sl_up_no {w : World} {L T N s m l : Nat} {x : St} (h : TA w L T N s m l x) {n : Nat} (hn7 : n ≤ 7) (hr : readX x.M 2 x.area x.pt.toNat n = none) :
    Calls Try.prog 77 #[.pointer (some ⟨s, 0, none⟩), .int .i64 n] w (FltS w L T s m l x 80) := by
  have SR := Lib.hid (sl_read_no (h.below (bl1 w (.cells #[.slice none 0 0] 78))) (n := n) (by omega) hr)
  have HB := Lib.hid (And.intro h (bl1 w (.cells #[.slice none 0 0] 78)))
  clear h hr
  refine (callsIn_wide (n := 6)).1 ?_
  refine callsIn_of_wp_marks Try.func77 rfl trivial ?_ rfl
  simp only [Try.ntmps77, List.size_toArray, List.length_cons, List.length_nil, Nat.reduceAdd, Nat.reduceSub, Array.replicate_succ, Array.replicate_zero, List.push_toArray, List.append_toArray, List.nil_append, List.cons_append]
  gi_wp2_with (refine ⟨trivial, ?_⟩; gi_at_call 107; refine (callsIn_wide.2 SR.out).mono ?_; rintro e w1 ⟨rfl, hb⟩)
  have hb1 : Below w.heap.size w w1 := HB.out.2.trans (hb.mono HB.out.2.size)
  have FIN : FltS w L T s m l x 80 (.panicked (faultE 80)) w1 := ⟨rfl, (HB.out.1.below hb1).more (Nat.le_trans HB.out.1.n hb1.size) (Nat.le_refl _), ChR.of_below hb1 _ _ _ _⟩
  exact FIN
set_option maxHeartbeats 4000000 in
theorem does_short {w : World} {L T N s m l : Nat} {x : St} (h : TA w L T N s m l x) (c : Cm) (hw : c.wf) (hc : c.code = 7) (h0 : 1 ≤ c.a0 ∧ c.a0 ≤ 7) (v : Value) {bs : List Int} (hr : readX x.M 2 c.a1 c.w.toNat c.a0.toNat = some bs) :
    Calls Try.prog 56 #[.pointer (some ⟨s, 0, none⟩), c.val, v] w (AnsQ w L T s m l { x with area := c.a1, pt := (c.w + c.a0) % 4294967296 } bs) := by
  have hb := bl1 w (.cells c.cs.toArray 35)
  have hcc := (Blk.new w 35 c.cs.toArray).cell
  have H1 := h.below hb
  have B1 : Blk (w.alloc (.cells c.cs.toArray 35)) s 146 #[.pointer (some ⟨m, 0, none⟩), .pointer (some ⟨l, 0, none⟩), .bool x.on, .int .u8 x.area, .int .u32 x.pt, .int .i64 x.block] := H1.sl
  have hBC := Blk.new w 35 c.cs.toArray
  have HB := Lib.hid hb
  have HW := Lib.hid hw
  have hne : w.heap.size ≠ s := fun e => by have := h.sl.lt; omega
  obtain ⟨code, a0, a1, a2, a3, a4, cw, bA, bn, bc⟩ := c
  simp only at hc
  subst hc
  clear h hb hw
  have AK := Lib.hid (fun w => ask_ok (.int .i64 1) w)
  simp only at h0 hr
  obtain ⟨n, rfl⟩ : ∃ n : Nat, a0 = (n : Int) := ⟨a0.toNat, by omega⟩
  have hwa : IntKind.i64.wrap (n : Int) = n := IntWalk.i64_in _ (by omega)
  have hgt : decide ((0 : Int) < n) = true := decide_eq_true (by omega)
  have h7 : decide ((n : Int) ≤ 7) = true := decide_eq_true (by omega)
  have hn0 : 0 < n := by omega
  have hn7 : n ≤ 7 := by omega
  have hn0d : decide (0 < n) = true := decide_eq_true hn0
  have HR := Lib.hid (And.intro h0 hr)
  clear h0 hr
  go_enter Try.func56, Try.ntmps56
  go_upto_region 8 with (first | (refine (AK.out _).mono ?_; rintro e w' ⟨rfl, rfl⟩))
  refine wp_named fun W hW => ?_
  obtain ⟨cb, hcb⟩ : ∃ cb, w.heap.size = cb := ⟨_, rfl⟩
  have BC : Blk W cb 35 #[.int .u8 7, .int .u8 n, .int .u8 a1, .int .u8 a2, .int .u8 a3, .int .u8 a4, .int .u32 cw, .slice bA bn bc] := by rw [hW, ← hcb]; exact hBC
  have B1 : Blk W s 146 #[.pointer (some ⟨m, 0, none⟩), .pointer (some ⟨l, 0, none⟩), .bool x.on, .int .u8 x.area, .int .u32 x.pt, .int .i64 x.block] := by rw [hW]; exact B1
  have HH : Hid (TA W L T N s m l x) := Lib.hid (by rw [hW]; exact H1)
  have HB : Hid (Below w.heap.size w W) := Lib.hid (by rw [hW]; exact HB.out)
  rw [hcb] at hne ⊢
  clear hW hBC H1 hcc
  have HRR : ∀ k w', (fun k w' => Blk w' cb 35 #[.int .u8 7, .int .u8 n, .int .u8 a1, .int .u8 a2, .int .u8 a3, .int .u8 a4, .int .u32 cw, .slice bA bn bc] ∧ Blk w' s 146 #[.pointer (some ⟨m, 0, none⟩), .pointer (some ⟨l, 0, none⟩), .bool x.on, .int .u8 (if k = 0 then x.area else a1), .int .u32 (if k = 2 then cw else x.pt), .int .i64 x.block] ∧ W.grownBy w' (some s)) k w' → ∀ i, w'.cell? ⟨cb, i, none⟩ = (#[.int .u8 7, .int .u8 n, .int .u8 a1, .int .u8 a2, .int .u8 a3, .int .u8 a4, .int .u32 cw, .slice bA bn bc] : Array Value)[i]? := fun k w' h => h.1.cell
  refine wp_region_s [9, 12] (fun k w' => Blk w' cb 35 #[.int .u8 7, .int .u8 n, .int .u8 a1, .int .u8 a2, .int .u8 a3, .int .u8 a4, .int .u32 cw, .slice bA bn bc] ∧ Blk w' s 146 #[.pointer (some ⟨m, 0, none⟩), .pointer (some ⟨l, 0, none⟩), .bool x.on, .int .u8 (if k = 0 then x.area else a1), .int .u32 (if k = 2 then cw else x.pt), .int .i64 x.block] ∧ W.grownBy w' (some s)) (by kernel_rfl) (by kernel_rfl) (⟨BC.drew, B1.drew, ⟨rfl, rfl, rfl, Nat.le_refl _, fun _ _ _ => rfl⟩⟩) ?_
  first
    | (refine wpS_skip (by rfl) (by rfl) ?_; try simp only [Act.put, List.setIfInBounds_toArray, List.set_cons_zero, List.set_cons_succ, Nat.reduceAdd])
    | (refine wpS_val (v := ?_) HRR (by rfl) (by rfl) ?_ ?_; rotate_left; · (intro w' hS; go_simp; first | done | with_reducible rfl)
       try simp only [Act.put, List.setIfInBounds_toArray, List.set_cons_zero, List.set_cons_succ, Nat.reduceAdd])
  first
    | (refine wpS_skip (by rfl) (by rfl) ?_; try simp only [Act.put, List.setIfInBounds_toArray, List.set_cons_zero, List.set_cons_succ, Nat.reduceAdd])
    | (refine wpS_val (v := ?_) HRR (by rfl) (by rfl) ?_ ?_; rotate_left; · (intro w' hS; go_simp; first | done | with_reducible rfl)
       try simp only [Act.put, List.setIfInBounds_toArray, List.set_cons_zero, List.set_cons_succ, Nat.reduceAdd])
  first
    | (refine wpS_skip (by rfl) (by rfl) ?_; try simp only [Act.put, List.setIfInBounds_toArray, List.set_cons_zero, List.set_cons_succ, Nat.reduceAdd])
    | (refine wpS_val (v := ?_) HRR (by rfl) (by rfl) ?_ ?_; rotate_left; · (intro w' hS; go_simp; first | done | with_reducible rfl)
       try simp only [Act.put, List.setIfInBounds_toArray, List.set_cons_zero, List.set_cons_succ, Nat.reduceAdd])
  first
    | (refine wpS_skip (by rfl) (by rfl) ?_; try simp only [Act.put, List.setIfInBounds_toArray, List.set_cons_zero, List.set_cons_succ, Nat.reduceAdd])
    | (refine wpS_val (v := ?_) HRR (by rfl) (by rfl) ?_ ?_; rotate_left; · (intro w' hS; go_simp; first | done | with_reducible rfl)
       try simp only [Act.put, List.setIfInBounds_toArray, List.set_cons_zero, List.set_cons_succ, Nat.reduceAdd])
  first
    | (refine wpS_skip (by rfl) (by rfl) ?_; try simp only [Act.put, List.setIfInBounds_toArray, List.set_cons_zero, List.set_cons_succ, Nat.reduceAdd])
    | (refine wpS_val (v := ?_) HRR (by rfl) (by rfl) ?_ ?_; rotate_left; · (intro w' hS; go_simp; first | done | with_reducible rfl)
       try simp only [Act.put, List.setIfInBounds_toArray, List.set_cons_zero, List.set_cons_succ, Nat.reduceAdd])
  first
    | (refine wpS_skip (by rfl) (by rfl) ?_; try simp only [Act.put, List.setIfInBounds_toArray, List.set_cons_zero, List.set_cons_succ, Nat.reduceAdd])
    | (refine wpS_val (v := ?_) HRR (by rfl) (by rfl) ?_ ?_; rotate_left; · (intro w' hS; go_simp; first | done | with_reducible rfl)
       try simp only [Act.put, List.setIfInBounds_toArray, List.set_cons_zero, List.set_cons_succ, Nat.reduceAdd])
  first
    | (refine wpS_skip (by rfl) (by rfl) ?_; try simp only [Act.put, List.setIfInBounds_toArray, List.set_cons_zero, List.set_cons_succ, Nat.reduceAdd])
    | (refine wpS_val (v := ?_) HRR (by rfl) (by rfl) ?_ ?_; rotate_left; · (intro w' hS; go_simp; first | done | with_reducible rfl)
       try simp only [Act.put, List.setIfInBounds_toArray, List.set_cons_zero, List.set_cons_succ, Nat.reduceAdd])
  first
    | (refine wpS_skip (by rfl) (by rfl) ?_; try simp only [Act.put, List.setIfInBounds_toArray, List.set_cons_zero, List.set_cons_succ, Nat.reduceAdd])
    | (refine wpS_val (v := ?_) HRR (by rfl) (by rfl) ?_ ?_; rotate_left; · (intro w' hS; go_simp; first | done | with_reducible rfl)
       try simp only [Act.put, List.setIfInBounds_toArray, List.set_cons_zero, List.set_cons_succ, Nat.reduceAdd])
  first
    | (refine wpS_skip (by rfl) (by rfl) ?_; try simp only [Act.put, List.setIfInBounds_toArray, List.set_cons_zero, List.set_cons_succ, Nat.reduceAdd])
    | (refine wpS_val (v := ?_) HRR (by rfl) (by rfl) ?_ ?_; rotate_left; · (intro w' hS; go_simp; first | done | with_reducible rfl)
       try simp only [Act.put, List.setIfInBounds_toArray, List.set_cons_zero, List.set_cons_succ, Nat.reduceAdd])
  refine wpS_step (v := undef) 0 (by kernel_rfl) rfl (by intro p hp; first | omega | (obtain rfl : p = 0 := (by omega); exact ⟨_, rfl, by kernel_rfl⟩)) (of_decide_eq_true (by kernel_rfl)) (fun w' hS => .inl ⟨by rfl, ?_⟩) (fun _ => rfl) ?_
  · have hS' : Blk w' cb 35 #[.int .u8 7, .int .u8 n, .int .u8 a1, .int .u8 a2, .int .u8 a3, .int .u8 a4, .int .u32 cw, .slice bA bn bc] ∧ Blk w' s 146 #[.pointer (some ⟨m, 0, none⟩), .pointer (some ⟨l, 0, none⟩), .bool x.on, .int .u8 x.area, .int .u32 x.pt, .int .i64 x.block] ∧ W.grownBy w' (some s) := hS
    refine wp_stB 5 (.tmp 39) (.tmp 35) rfl (.int .u8 a1) 3 rfl rfl hS'.2.1 (by simp [Value.cells]) (by kernel_rfl) (by simp [Value.cells, Value.oneCell']) (fun w'' h2 h3 => ⟨rfl, ?_⟩)
    exact ⟨hS'.1.grown h3 (by intro e; injection e with e; exact hne e), h2, grown_two hS'.2.2 h3⟩
  try simp only [Act.put, List.setIfInBounds_toArray, List.set_cons_zero, List.set_cons_succ, Nat.reduceAdd]
  first
    | (refine wpS_skip (by rfl) (by rfl) ?_; try simp only [Act.put, List.setIfInBounds_toArray, List.set_cons_zero, List.set_cons_succ, Nat.reduceAdd])
    | (refine wpS_val (v := ?_) HRR (by rfl) (by rfl) ?_ ?_; rotate_left; · (intro w' hS; go_simp; first | done | with_reducible rfl)
       try simp only [Act.put, List.setIfInBounds_toArray, List.set_cons_zero, List.set_cons_succ, Nat.reduceAdd])
  first
    | (refine wpS_skip (by rfl) (by rfl) ?_; try simp only [Act.put, List.setIfInBounds_toArray, List.set_cons_zero, List.set_cons_succ, Nat.reduceAdd])
    | (refine wpS_val (v := ?_) HRR (by rfl) (by rfl) ?_ ?_; rotate_left; · (intro w' hS; go_simp; first | done | with_reducible rfl)
       try simp only [Act.put, List.setIfInBounds_toArray, List.set_cons_zero, List.set_cons_succ, Nat.reduceAdd])
  refine wpS_step (v := undef) 1 (by kernel_rfl) rfl (by intro p hp; first | omega | (obtain rfl : p = 0 := (by omega); exact ⟨_, rfl, by kernel_rfl⟩)) (of_decide_eq_true (by kernel_rfl)) (fun w' hS => .inl ⟨by rfl, ?_⟩) (fun _ => rfl) ?_
  · have hS' : Blk w' cb 35 #[.int .u8 7, .int .u8 n, .int .u8 a1, .int .u8 a2, .int .u8 a3, .int .u8 a4, .int .u32 cw, .slice bA bn bc] ∧ Blk w' s 146 #[.pointer (some ⟨m, 0, none⟩), .pointer (some ⟨l, 0, none⟩), .bool x.on, .int .u8 a1, .int .u32 x.pt, .int .i64 x.block] ∧ W.grownBy w' (some s) := hS
    refine wp_stB 33 (.tmp 41) (.tmp 37) rfl (.int .u32 cw) 4 rfl rfl hS'.2.1 (by simp [Value.cells]) (by kernel_rfl) (by simp [Value.cells, Value.oneCell']) (fun w'' h2 h3 => ⟨rfl, ?_⟩)
    exact ⟨hS'.1.grown h3 (by intro e; injection e with e; exact hne e), h2, grown_two hS'.2.2 h3⟩
  try simp only [Act.put, List.setIfInBounds_toArray, List.set_cons_zero, List.set_cons_succ, Nat.reduceAdd]
  refine wpS_done (by kernel_rfl) (fun w4 hS => ?_)
  have hS4 : Blk w4 cb 35 #[.int .u8 7, .int .u8 n, .int .u8 a1, .int .u8 a2, .int .u8 a3, .int .u8 a4, .int .u32 cw, .slice bA bn bc] ∧ Blk w4 s 146 #[.pointer (some ⟨m, 0, none⟩), .pointer (some ⟨l, 0, none⟩), .bool x.on, .int .u8 a1, .int .u32 cw, .int .i64 x.block] ∧ W.grownBy w4 (some s) := hS
  obtain ⟨H4, C4⟩ := HH.out.slw (y := { x with area := a1, pt := cw }) ⟨rfl, rfl⟩ ⟨HW.out.h1.1, HW.out.h1.2, HW.out.w0, HW.out.w1⟩ hS4.2.1 hS4.2.2
  have H4' := Lib.hid H4
  have C4' := Lib.hid ((ChR.of_below HB.out _ _ _ _).trans C4)
  have UP := Lib.hid (sl_up H4 (n := n) (by have := HR.out.1; omega) (by have := HR.out.1; omega) (bs := bs) (by have := HR.out.2; rwa [Int.toNat_natCast] at this))
  have hz4 : w.heap.size ≤ w4.heap.size := C4'.out.size
  clear hS hS4 H4 C4 HRR
  go_wp2_with fail
  refine UP.out.mono ?_
  rintro e w5 ⟨r, rfl, hP, hT, hC⟩
  have FIN := Lib.hid (And.intro (hP.from_ hz4) (And.intro hT (C4'.out.trans hC)))
  clear hP hT hC UP
  go_wp2_with fail
  go_ret
  exact ⟨r, rfl, FIN.out.1, FIN.out.2.1, FIN.out.2.2⟩
set_option maxHeartbeats 4000000 in
theorem does_short_no {w : World} {L T N s m l : Nat} {x : St} (h : TA w L T N s m l x) (c : Cm) (hw : c.wf) (hc : c.code = 7) (h0 : 1 ≤ c.a0 ∧ c.a0 ≤ 7) (v : Value) (hr : readX x.M 2 c.a1 c.w.toNat c.a0.toNat = none) :
    Calls Try.prog 56 #[.pointer (some ⟨s, 0, none⟩), c.val, v] w (FltS w L T s m l { x with area := c.a1, pt := c.w } 80) := by
  have hb := bl1 w (.cells c.cs.toArray 35)
  have hcc := (Blk.new w 35 c.cs.toArray).cell
  have H1 := h.below hb
  have B1 : Blk (w.alloc (.cells c.cs.toArray 35)) s 146 #[.pointer (some ⟨m, 0, none⟩), .pointer (some ⟨l, 0, none⟩), .bool x.on, .int .u8 x.area, .int .u32 x.pt, .int .i64 x.block] := H1.sl
  have hBC := Blk.new w 35 c.cs.toArray
  have HB := Lib.hid hb
  have HW := Lib.hid hw
  have hne : w.heap.size ≠ s := fun e => by have := h.sl.lt; omega
  obtain ⟨code, a0, a1, a2, a3, a4, cw, bA, bn, bc⟩ := c
  simp only at hc
  subst hc
  clear h hb hw
  have AK := Lib.hid (fun w => ask_ok (.int .i64 1) w)
  simp only at h0 hr
  obtain ⟨n, rfl⟩ : ∃ n : Nat, a0 = (n : Int) := ⟨a0.toNat, by omega⟩
  have hwa : IntKind.i64.wrap (n : Int) = n := IntWalk.i64_in _ (by omega)
  have hgt : decide ((0 : Int) < n) = true := decide_eq_true (by omega)
  have h7 : decide ((n : Int) ≤ 7) = true := decide_eq_true (by omega)
  have hn0 : 0 < n := by omega
  have hn7 : n ≤ 7 := by omega
  have hn0d : decide (0 < n) = true := decide_eq_true hn0
  have HR := Lib.hid (And.intro h0 hr)
  clear h0 hr
  go_enter Try.func56, Try.ntmps56
  go_upto_region 8 with (first | (refine (AK.out _).mono ?_; rintro e w' ⟨rfl, rfl⟩))
  refine wp_named fun W hW => ?_
  obtain ⟨cb, hcb⟩ : ∃ cb, w.heap.size = cb := ⟨_, rfl⟩
  have BC : Blk W cb 35 #[.int .u8 7, .int .u8 n, .int .u8 a1, .int .u8 a2, .int .u8 a3, .int .u8 a4, .int .u32 cw, .slice bA bn bc] := by rw [hW, ← hcb]; exact hBC
  have B1 : Blk W s 146 #[.pointer (some ⟨m, 0, none⟩), .pointer (some ⟨l, 0, none⟩), .bool x.on, .int .u8 x.area, .int .u32 x.pt, .int .i64 x.block] := by rw [hW]; exact B1
  have HH : Hid (TA W L T N s m l x) := Lib.hid (by rw [hW]; exact H1)
  have HB : Hid (Below w.heap.size w W) := Lib.hid (by rw [hW]; exact HB.out)
  rw [hcb] at hne ⊢
  clear hW hBC H1 hcc
  have HRR : ∀ k w', (fun k w' => Blk w' cb 35 #[.int .u8 7, .int .u8 n, .int .u8 a1, .int .u8 a2, .int .u8 a3, .int .u8 a4, .int .u32 cw, .slice bA bn bc] ∧ Blk w' s 146 #[.pointer (some ⟨m, 0, none⟩), .pointer (some ⟨l, 0, none⟩), .bool x.on, .int .u8 (if k = 0 then x.area else a1), .int .u32 (if k = 2 then cw else x.pt), .int .i64 x.block] ∧ W.grownBy w' (some s)) k w' → ∀ i, w'.cell? ⟨cb, i, none⟩ = (#[.int .u8 7, .int .u8 n, .int .u8 a1, .int .u8 a2, .int .u8 a3, .int .u8 a4, .int .u32 cw, .slice bA bn bc] : Array Value)[i]? := fun k w' h => h.1.cell
  refine wp_region_s [9, 12] (fun k w' => Blk w' cb 35 #[.int .u8 7, .int .u8 n, .int .u8 a1, .int .u8 a2, .int .u8 a3, .int .u8 a4, .int .u32 cw, .slice bA bn bc] ∧ Blk w' s 146 #[.pointer (some ⟨m, 0, none⟩), .pointer (some ⟨l, 0, none⟩), .bool x.on, .int .u8 (if k = 0 then x.area else a1), .int .u32 (if k = 2 then cw else x.pt), .int .i64 x.block] ∧ W.grownBy w' (some s)) (by kernel_rfl) (by kernel_rfl) (⟨BC.drew, B1.drew, ⟨rfl, rfl, rfl, Nat.le_refl _, fun _ _ _ => rfl⟩⟩) ?_
  first
    | (refine wpS_skip (by rfl) (by rfl) ?_; try simp only [Act.put, List.setIfInBounds_toArray, List.set_cons_zero, List.set_cons_succ, Nat.reduceAdd])
    | (refine wpS_val (v := ?_) HRR (by rfl) (by rfl) ?_ ?_; rotate_left; · (intro w' hS; go_simp; first | done | with_reducible rfl)
       try simp only [Act.put, List.setIfInBounds_toArray, List.set_cons_zero, List.set_cons_succ, Nat.reduceAdd])
  first
    | (refine wpS_skip (by rfl) (by rfl) ?_; try simp only [Act.put, List.setIfInBounds_toArray, List.set_cons_zero, List.set_cons_succ, Nat.reduceAdd])
    | (refine wpS_val (v := ?_) HRR (by rfl) (by rfl) ?_ ?_; rotate_left; · (intro w' hS; go_simp; first | done | with_reducible rfl)
       try simp only [Act.put, List.setIfInBounds_toArray, List.set_cons_zero, List.set_cons_succ, Nat.reduceAdd])
  first
    | (refine wpS_skip (by rfl) (by rfl) ?_; try simp only [Act.put, List.setIfInBounds_toArray, List.set_cons_zero, List.set_cons_succ, Nat.reduceAdd])
    | (refine wpS_val (v := ?_) HRR (by rfl) (by rfl) ?_ ?_; rotate_left; · (intro w' hS; go_simp; first | done | with_reducible rfl)
       try simp only [Act.put, List.setIfInBounds_toArray, List.set_cons_zero, List.set_cons_succ, Nat.reduceAdd])
  first
    | (refine wpS_skip (by rfl) (by rfl) ?_; try simp only [Act.put, List.setIfInBounds_toArray, List.set_cons_zero, List.set_cons_succ, Nat.reduceAdd])
    | (refine wpS_val (v := ?_) HRR (by rfl) (by rfl) ?_ ?_; rotate_left; · (intro w' hS; go_simp; first | done | with_reducible rfl)
       try simp only [Act.put, List.setIfInBounds_toArray, List.set_cons_zero, List.set_cons_succ, Nat.reduceAdd])
  first
    | (refine wpS_skip (by rfl) (by rfl) ?_; try simp only [Act.put, List.setIfInBounds_toArray, List.set_cons_zero, List.set_cons_succ, Nat.reduceAdd])
    | (refine wpS_val (v := ?_) HRR (by rfl) (by rfl) ?_ ?_; rotate_left; · (intro w' hS; go_simp; first | done | with_reducible rfl)
       try simp only [Act.put, List.setIfInBounds_toArray, List.set_cons_zero, List.set_cons_succ, Nat.reduceAdd])
  first
    | (refine wpS_skip (by rfl) (by rfl) ?_; try simp only [Act.put, List.setIfInBounds_toArray, List.set_cons_zero, List.set_cons_succ, Nat.reduceAdd])
    | (refine wpS_val (v := ?_) HRR (by rfl) (by rfl) ?_ ?_; rotate_left; · (intro w' hS; go_simp; first | done | with_reducible rfl)
       try simp only [Act.put, List.setIfInBounds_toArray, List.set_cons_zero, List.set_cons_succ, Nat.reduceAdd])
  first
    | (refine wpS_skip (by rfl) (by rfl) ?_; try simp only [Act.put, List.setIfInBounds_toArray, List.set_cons_zero, List.set_cons_succ, Nat.reduceAdd])
    | (refine wpS_val (v := ?_) HRR (by rfl) (by rfl) ?_ ?_; rotate_left; · (intro w' hS; go_simp; first | done | with_reducible rfl)
       try simp only [Act.put, List.setIfInBounds_toArray, List.set_cons_zero, List.set_cons_succ, Nat.reduceAdd])
  first
    | (refine wpS_skip (by rfl) (by rfl) ?_; try simp only [Act.put, List.setIfInBounds_toArray, List.set_cons_zero, List.set_cons_succ, Nat.reduceAdd])
    | (refine wpS_val (v := ?_) HRR (by rfl) (by rfl) ?_ ?_; rotate_left; · (intro w' hS; go_simp; first | done | with_reducible rfl)
       try simp only [Act.put, List.setIfInBounds_toArray, List.set_cons_zero, List.set_cons_succ, Nat.reduceAdd])
  first
    | (refine wpS_skip (by rfl) (by rfl) ?_; try simp only [Act.put, List.setIfInBounds_toArray, List.set_cons_zero, List.set_cons_succ, Nat.reduceAdd])
    | (refine wpS_val (v := ?_) HRR (by rfl) (by rfl) ?_ ?_; rotate_left; · (intro w' hS; go_simp; first | done | with_reducible rfl)
       try simp only [Act.put, List.setIfInBounds_toArray, List.set_cons_zero, List.set_cons_succ, Nat.reduceAdd])
  refine wpS_step (v := undef) 0 (by kernel_rfl) rfl (by intro p hp; first | omega | (obtain rfl : p = 0 := (by omega); exact ⟨_, rfl, by kernel_rfl⟩)) (of_decide_eq_true (by kernel_rfl)) (fun w' hS => .inl ⟨by rfl, ?_⟩) (fun _ => rfl) ?_
  · have hS' : Blk w' cb 35 #[.int .u8 7, .int .u8 n, .int .u8 a1, .int .u8 a2, .int .u8 a3, .int .u8 a4, .int .u32 cw, .slice bA bn bc] ∧ Blk w' s 146 #[.pointer (some ⟨m, 0, none⟩), .pointer (some ⟨l, 0, none⟩), .bool x.on, .int .u8 x.area, .int .u32 x.pt, .int .i64 x.block] ∧ W.grownBy w' (some s) := hS
    refine wp_stB 5 (.tmp 39) (.tmp 35) rfl (.int .u8 a1) 3 rfl rfl hS'.2.1 (by simp [Value.cells]) (by kernel_rfl) (by simp [Value.cells, Value.oneCell']) (fun w'' h2 h3 => ⟨rfl, ?_⟩)
    exact ⟨hS'.1.grown h3 (by intro e; injection e with e; exact hne e), h2, grown_two hS'.2.2 h3⟩
  try simp only [Act.put, List.setIfInBounds_toArray, List.set_cons_zero, List.set_cons_succ, Nat.reduceAdd]
  first
    | (refine wpS_skip (by rfl) (by rfl) ?_; try simp only [Act.put, List.setIfInBounds_toArray, List.set_cons_zero, List.set_cons_succ, Nat.reduceAdd])
    | (refine wpS_val (v := ?_) HRR (by rfl) (by rfl) ?_ ?_; rotate_left; · (intro w' hS; go_simp; first | done | with_reducible rfl)
       try simp only [Act.put, List.setIfInBounds_toArray, List.set_cons_zero, List.set_cons_succ, Nat.reduceAdd])
  first
    | (refine wpS_skip (by rfl) (by rfl) ?_; try simp only [Act.put, List.setIfInBounds_toArray, List.set_cons_zero, List.set_cons_succ, Nat.reduceAdd])
    | (refine wpS_val (v := ?_) HRR (by rfl) (by rfl) ?_ ?_; rotate_left; · (intro w' hS; go_simp; first | done | with_reducible rfl)
       try simp only [Act.put, List.setIfInBounds_toArray, List.set_cons_zero, List.set_cons_succ, Nat.reduceAdd])
  refine wpS_step (v := undef) 1 (by kernel_rfl) rfl (by intro p hp; first | omega | (obtain rfl : p = 0 := (by omega); exact ⟨_, rfl, by kernel_rfl⟩)) (of_decide_eq_true (by kernel_rfl)) (fun w' hS => .inl ⟨by rfl, ?_⟩) (fun _ => rfl) ?_
  · have hS' : Blk w' cb 35 #[.int .u8 7, .int .u8 n, .int .u8 a1, .int .u8 a2, .int .u8 a3, .int .u8 a4, .int .u32 cw, .slice bA bn bc] ∧ Blk w' s 146 #[.pointer (some ⟨m, 0, none⟩), .pointer (some ⟨l, 0, none⟩), .bool x.on, .int .u8 a1, .int .u32 x.pt, .int .i64 x.block] ∧ W.grownBy w' (some s) := hS
    refine wp_stB 33 (.tmp 41) (.tmp 37) rfl (.int .u32 cw) 4 rfl rfl hS'.2.1 (by simp [Value.cells]) (by kernel_rfl) (by simp [Value.cells, Value.oneCell']) (fun w'' h2 h3 => ⟨rfl, ?_⟩)
    exact ⟨hS'.1.grown h3 (by intro e; injection e with e; exact hne e), h2, grown_two hS'.2.2 h3⟩
  try simp only [Act.put, List.setIfInBounds_toArray, List.set_cons_zero, List.set_cons_succ, Nat.reduceAdd]
  refine wpS_done (by kernel_rfl) (fun w4 hS => ?_)
  have hS4 : Blk w4 cb 35 #[.int .u8 7, .int .u8 n, .int .u8 a1, .int .u8 a2, .int .u8 a3, .int .u8 a4, .int .u32 cw, .slice bA bn bc] ∧ Blk w4 s 146 #[.pointer (some ⟨m, 0, none⟩), .pointer (some ⟨l, 0, none⟩), .bool x.on, .int .u8 a1, .int .u32 cw, .int .i64 x.block] ∧ W.grownBy w4 (some s) := hS
  obtain ⟨H4, C4⟩ := HH.out.slw (y := { x with area := a1, pt := cw }) ⟨rfl, rfl⟩ ⟨HW.out.h1.1, HW.out.h1.2, HW.out.w0, HW.out.w1⟩ hS4.2.1 hS4.2.2
  have H4' := Lib.hid H4
  have C4' := Lib.hid ((ChR.of_below HB.out _ _ _ _).trans C4)
  have UP := Lib.hid (sl_up_no H4 (n := n) (by have := HR.out.1; omega) (by have := HR.out.2; rwa [Int.toNat_natCast] at this))
  clear hS hS4 H4 C4 HRR
  go_wp2_with fail
  refine UP.out.mono ?_
  rintro e w5 ⟨rfl, hT, hC⟩
  exact ⟨rfl, rfl, hT, C4'.out.trans hC⟩
end Go.Proofs.Yteecgdbicokgoaa
