/- split.Lay. -/
import Derived.Test.YteecgdbicokgoaaT5
namespace Go.Proofs.Yteecgdbicokgoaa
open Go.RowKit
set_option linter.unusedVariables false
set_option linter.unusedSimpArgs false
set_option maxRecDepth 100000
/-- Beside the commands made so far: those of what is chosen. -/
structure LDc (base go N M : Nat) (w : World) (A : Option Addr) (c : Nat) (cl : List Cm) (A2 : Option Addr) (c2 : Nat) (cl2 : List Cm) : Prop where
  l : LSc base go N w A c cl
  row : Own w base 35 8 A2 cl2.length c2 (cmsC cl2)
  ne : blkOf A2 = none ∨ blkOf A2 ≠ blkOf A
  bare : ∀ x ∈ cl2, x.bare
  le : cl2.length ≤ M
def LD (base go N M : Nat) (v : Value) (w : World) : Prop := ∃ A c cl A2 c2 cl2, v = .slice A2 cl2.length c2 ∧ LDc base go N M w A c cl A2 c2 cl2
theorem LDc.below {base go N M : Nat} {w w' : World} {A : Option Addr} {c : Nat} {cl : List Cm} {A2 : Option Addr} {c2 : Nat} {cl2 : List Cm} (h : LDc base go N M w A c cl A2 c2 cl2) (hb : Below w.heap.size w w') : LDc base go N M w' A c cl A2 c2 cl2 := ⟨h.l.below hb, h.row.below hb, h.ne, h.bare, h.le⟩
/-- One more command. -/
theorem LDc.push {base go N M : Nat} {W w8 w9 : World} {A : Option Addr} {c : Nat} {cl : List Cm} {A2 : Option Addr} {c2 : Nat} {cl2 : List Cm} (h : LDc base go N M W A c cl A2 c2 cl2) (hS : Below W.heap.size W w8) (hg : w8.grownBy w9 (blkOf A)) {y : Cm} (hy : y.bare) {A9 : Option Addr} {c9 : Nat} (ho : Own w9 base 35 8 A9 (cl.length + 1) c9 (cmsC cl ++ y.cs))
    (hbk : blkOf A9 = blkOf A ∨ blkOf A9 = some w8.heap.size) : LD base go (N + 1) M (.slice A2 cl2.length c2) (w9.setCell ⟨go, 0, none⟩ (.slice A9 (cl.length + 1) c9)) ∧ ChT base [36, 35] W (w9.setCell ⟨go, 0, none⟩ (.slice A9 (cl.length + 1) c9)) := by
  have h8 := h.l.below hS
  have hgo := own_blk_ne h8.row h8.b (by decide)
  have hB := h8.b.grown hg hgo
  have hc : ChT base [36, 35] W w9 := chT_grown (ChT.of_below hS _ _) hg fun q hq => by
    obtain ⟨cs, hcs⟩ := h8.row.row hq
    exact ⟨(h8.row.lt hq).1, 35, cs, hcs, by simp⟩
  have hl : (cl ++ [y]).length = cl.length + 1 := by simp
  have hr8 := h.row.below hS
  have hr9 := hr8.grown hg h.ne
  refine ⟨⟨A9, c9, cl ++ [y], A2, c2, cl2, rfl, ⟨?_, h.l.gb, ?_, ?_, ?_⟩, ?_, ?_, h.bare, h.le⟩, hc.set_ hB (by simp) h.l.gb _⟩
  · rw [hl]
    exact hB.set_ 0 _
  · rw [hl, cmsC_snoc]
    exact ho.far (p := ⟨go, 0, none⟩) (fun e => by
      obtain ⟨cs, hcs⟩ := ho.row e
      have := blk_ty hcs hB
      cases this) _
  · intro x hx
    rcases List.mem_append.1 hx with hx | hx
    · exact h.l.bare x hx
    · rw [List.mem_singleton.1 hx]; exact hy
  · rw [hl]
    have := h.l.le
    omega
  · exact hr9.far (p := ⟨go, 0, none⟩) (fun e => by
      obtain ⟨cs, hcs⟩ := hr9.row e
      have := blk_ty hcs hB
      cases this) _
  · rcases h.ne with h1 | h1
    · exact .inl h1
    · rcases hbk with h2 | h2
      · exact .inr (by rw [h2]; exact h1)
      · refine .inr (fun e => ?_)
        rw [h2] at e
        have := (hr8.lt e).2
        omega
/-- One more of what is chosen. -/
theorem LDc.push2 {base go N M : Nat} {w8 w9 : World} {A : Option Addr} {c : Nat} {cl : List Cm} {A2 : Option Addr} {c2 : Nat} {cl2 : List Cm} (h : LDc base go N M w8 A c cl A2 c2 cl2) (hg : w8.grownBy w9 (blkOf A2)) {y : Cm} (hy : y.bare) {A9 : Option Addr} {c9 : Nat} (ho : Own w9 base 35 8 A9 (cl2.length + 1) c9 (cmsC cl2 ++ y.cs))
    (hbk : blkOf A9 = blkOf A2 ∨ blkOf A9 = some w8.heap.size) : LD base go N (M + 1) (.slice A9 (cl2.length + 1) c9) w9 ∧ ChT base [36, 35] w8 w9 := by
  have hB := h.l.b.grown hg (own_blk_ne h.row h.l.b (by decide))
  have hr9 : Own w9 base 35 8 A cl.length c (cmsC cl) := h.l.row.grown hg (by
    rcases h.ne with h1 | h1
    · by_cases h2 : blkOf A = none
      · exact .inl h2
      · exact .inr (by rw [h1]; exact h2)
    · exact .inr (Ne.symm h1))
  have hc : ChT base [36, 35] w8 w9 := chT_grown (ChT.refl _ _ _) hg fun q hq => by
    obtain ⟨cs, hcs⟩ := h.row.row hq
    exact ⟨(h.row.lt hq).1, 35, cs, hcs, by simp⟩
  have hl : (cl2 ++ [y]).length = cl2.length + 1 := by simp
  refine ⟨⟨A, c, cl, A9, c9, cl2 ++ [y], by rw [hl], ⟨hB, h.l.gb, hr9, h.l.bare, h.l.le⟩, by rw [hl, cmsC_snoc]; exact ho, ?_, ?_, by rw [hl]; have := h.le; omega⟩, hc⟩
  · rcases hbk with h2 | h2
    · rw [h2]; exact h.ne
    · refine .inr (fun e => ?_)
      rw [h2] at e
      have := (h.l.row.lt e.symm).2
      omega
  · intro x hx
    rcases List.mem_append.1 hx with hx | hx
    · exact h.bare x hx
    · rw [List.mem_singleton.1 hx]; exact hy
/-- The commands, or why there are none. -/
def LayP (w : World) (e : Ending) (w' : World) : Prop := Below w.heap.size w w' ∧ ((∃ E : Int, E ≠ 0 ∧ e = .returned (.tuple #[.slice none 0 0, .int .i64 E])) ∨ ∃ A c cl, e = .returned (.tuple #[.slice A cl.length c, .int .i64 0]) ∧ Own w' w.heap.size 35 8 A cl.length c (cmsC cl) ∧ (∀ x ∈ cl, x.bare) ∧ cl.length ≤ 64)
set_option maxHeartbeats 16000000 in
theorem lay_any {w : World} {A : Option Addr} {n c : Nat} {cl : List Lc} (hl : cl.length = n) (hR : RSb w w.heap.size A cl) : Calls Try.prog 43 #[.slice A n c] w (LayP w) := by
  have hn4 : n ≤ 4 := by rw [← hl]; exact hR.n4
  have HX := Lib.hid (And.intro hl hR)
  have MY := Lib.hid (lmay_any (c := c) hl (hR.rs (Nat.le_refl _)) (by omega))
  clear hl hR
  go_enter Try.func43, Try.ntmps43
  go_wp2_with fail
  refine MY.out.mono ?_
  rintro e w1 ⟨b, rfl, hb1⟩
  clear MY
  have HB1 := Lib.hid hb1
  clear hb1
  cases b
  · go_wp2_with fail
    go_ret2
    exact ⟨HB1.out, .inl ⟨1, by decide, rfl⟩⟩
  · have S1 := Lib.hid (small_none (w := w1) (k := 18))
    go_wp2_with fail
    refine S1.out.mono ?_
    rintro e w2 ⟨rfl, hb2⟩
    have HB2 := Lib.hid (HB1.out.trans (hb2.mono HB1.out.size))
    have hnw : IntKind.u8.wrap (n : Int) = n := IntWalk.u8_in _ (by omega)
    have b1 := bl1 w2 (.cells #[.int .u8 n] 5)
    have S2 := Lib.hid (small_any (w := w2.alloc (.cells #[.int .u8 n] 5)) (k := 19) (xs := [(n : Int)]) (n := 1) (c := 1) rfl (by decide) (by decide) (Blk.rd (cs := [.int .u8 n]) (Blk.new w2 5 #[.int .u8 n])))
    have HB3 := Lib.hid (HB2.out.trans (b1.mono HB2.out.size))
    clear S1 hb2 b1 HB1
    go_wp2_with fail
    refine S2.out.mono ?_
    rintro e w3 ⟨rfl, hb3⟩
    have HB4 := Lib.hid (HB3.out.trans (hb3.mono HB3.out.size))
    clear S2 hb3 HB3 HB2
    go_upto_region 4 with fail
    refine wp_named fun W hW => ?_
    obtain ⟨BO, BG, hbW⟩ := blk2 (c1 := ((cm 18 0 0 0 0 0 0).cs ++ (cm 19 n 0 0 0 0 0).cs).toArray) (c2 := #[.slice (some ⟨w3.heap.size, 0, none⟩) 2 2]) hW
    obtain ⟨base, hbase⟩ : ∃ base, w.heap.size = base := ⟨_, rfl⟩
    obtain ⟨go, hgo⟩ : ∃ go, w3.heap.size + 1 = go := ⟨_, rfl⟩
    have hLS : LS base go 2 W := by
      have h1 := HB4.out.size
      refine ⟨_, 2, [cm 18 0 0 0 0 0 0, cm 19 n 0 0 0 0 0], by rw [← hgo]; exact BG, by omega, ?_, ?_, Nat.le_refl _⟩
      · have hm := (Own.made (e := 35) (size := 8) (base := base) w3 (by omega) ((cm 18 0 0 0 0 0 0).cs ++ (cm 19 n 0 0 0 0 0).cs).toArray 2 2 (by decide) (by decide) rfl).alloc (.cells #[.slice (some ⟨w3.heap.size, 0, none⟩) 2 2] 36)
        rw [hW]
        exact hm
      · intro x hx
        simp only [List.mem_cons, List.not_mem_nil, or_false] at hx
        rcases hx with rfl | rfl
        · exact bare_cm (by decide) (by decide) (by decide) (by decide) (by decide) (by decide) (by decide)
        · exact bare_cm (by decide) (by omega) (by decide) (by decide) (by decide) (by decide) (by decide)
    have hbw : Below base w W := by rw [← hbase]; exact HB4.out.trans (hbW.mono HB4.out.size)
    have HW := Lib.hid (And.intro hLS (And.intro hbw hbase))
    try rw [hgo]
    clear BO BG hbW hLS hbw hbase hW HB4 hgo
    go_wp2_with fail
    go_loopw [23] (fun iv wr => ∃ i : Nat, i ≤ n ∧ iv = .int .i64 i ∧ LS base go (2 + i) wr ∧ Below base w wr) (fun iv _ => n - (intOf iv).toNat)
    case atStart => exact ⟨0, Nat.zero_le _, rfl, HW.out.1, HW.out.2.1⟩
    case round =>
      obtain ⟨i, hi, rfl, hLS, hbw⟩ := hrel
      by_cases hlt : i < n
      · have hltI : (i : Int) < n := by omega
        obtain ⟨x, hx⟩ : ∃ x, cl[i]? = some x := ⟨_, List.getElem?_eq_getElem (by rw [HX.out.1]; exact hlt)⟩
        have hxm := List.mem_of_getElem? hx
        have hS := HX.out.2.below (by rw [HW.out.2.2]; exact hbw)
        obtain ⟨g, o, rfl, -, hc⟩ := hS.row (by
          intro e
          have h1 := lcells_len cl
          rw [e, HX.out.1] at h1
          simp at h1
          omega)
        have hxt := hS.tab x hxm
        have c0 := hc _ _ (lcells_at hx (j := 0) rfl)
        have c1' := hc _ _ (lcells_at hx (j := 1) rfl)
        have c2 := hc _ _ (lcells_at hx (j := 2) rfl)
        have c3 := hc _ _ (lcells_at hx (j := 3) rfl)
        have c4 := hc _ _ (lcells_at hx (j := 4) rfl)
        have c5 := hc _ _ (lcells_at hx (j := 5) rfl)
        have c6 := hc _ _ (lcells_at hx (j := 6) rfl)
        have c7 := hc _ _ (lcells_at hx (j := 7) rfl)
        simp only [← Nat.add_assoc, Nat.add_zero] at c0 c1' c2 c3 c4 c5 c6 c7
        obtain ⟨T, hT⟩ : ∃ T, x.tabs.length = T := ⟨_, rfl⟩
        obtain ⟨xA, xc, tabs, first, stim, ev, pre, pri, on, ch⟩ := x
        simp only at c0 c1' c2 c3 c4 c5 c6 c7 hT hxt
        rw [hT] at c1' hxt
        have b1 := bl1 wr (.cells #[.int .i64 first, .slice xA T xc, .bool stim, .int .u8 ev, .int .u8 pre, .int .u8 pri, .bool on, .bool ch] 71)
        have BX := Blk.new wr 71 #[.int .i64 first, .slice xA T xc, .bool stim, .int .u8 ev, .int .u8 pre, .int .u8 pri, .bool on, .bool ch]
        have hsz : base ≤ wr.heap.size := by have h1 := hbw.size; have h2 := HW.out.2.2; omega
        obtain ⟨Ac, cc, cl, hL⟩ := hLS.below b1
        have hT4 := hxt.1
        have hiw : IntKind.u8.wrap (i : Int) = i := IntWalk.u8_in _ (by omega)
        have hTw : IntKind.u8.wrap (T : Int) = T := IntWalk.u8_in _ (by omega)
        have hbare : (cm 20 i T 0 0 0 0).bare := bare_cm (by decide) (by omega) (by omega) (by decide) (by decide) (by decide) (by decide)
        have HL := Lib.hid (And.intro hL hbare)
        have hle := hL.le
        obtain ⟨q, hq⟩ : ∃ q, cl.length = q := ⟨_, rfl⟩
        rw [hq] at hle
        have HQ := Lib.hid hq
        obtain ⟨gx, hgx⟩ : ∃ gx, wr.heap.size = gx := ⟨_, rfl⟩
        rw [hgx] at BX
        have HBX := Lib.hid BX
        have HB := Lib.hid (hbw.trans (b1.mono hsz))
        clear hx hxm hS hxt hc hLS hbw b1 hL hbare hq BX hT
        go_upto_region 7 with fail
        refine wp_named fun W4 hW4 => ?_
        try rw [hgx]
        rw [← hW4] at HL HB HBX
        have hbase4 : base ≤ W4.heap.size := by rw [hW4, World.size_alloc]; omega
        clear hW4 c0 c1' c2 c3 c4 c5 c6 c7 hgx
        have hrule := HL.out.1.b.rule
        rw [HQ.out] at hrule
        have bx := HBX.out.rule
        go_wp2_with fail
        refine wp_region_any (by kernel_rfl) ?_
        refine wpAny_g (fun w' => Below W4.heap.size W4 w') Bel (mkG [(7, gLit W4.heap.size 5 2 #[.int .u8 i, .int .u8 T]), (8, gVal (cm 20 i T 0 0 0 0).val), (9, gLit W4.heap.size 35 1 (cm 20 i T 0 0 0 0).cs.toArray)]) [10, 11] [] (by kernel_rfl) (by kernel_rfl) (by kernel_rfl) (stays_mk _ _) (Below.refl _ _).drew ?_
        first
          | (refine wpH_skip (by rfl) (by rfl) ?_; try simp only [Act.put, List.setIfInBounds_toArray, List.set_cons_zero, List.set_cons_succ, Nat.reduceAdd])
          | (refine wpH_val (v := ?_) (by rfl) (by rfl) ?_ ?_; rotate_left; · (intro w' hS hF; go_simp; first | done | with_reducible rfl)
             try simp only [Act.put, List.setIfInBounds_toArray, List.set_cons_zero, List.set_cons_succ, Nat.reduceAdd])
        first
          | (refine wpH_skip (by rfl) (by rfl) ?_; try simp only [Act.put, List.setIfInBounds_toArray, List.set_cons_zero, List.set_cons_succ, Nat.reduceAdd])
          | (refine wpH_val (v := ?_) (by rfl) (by rfl) ?_ ?_; rotate_left; · (intro w' hS hF; go_simp; first | done | with_reducible rfl)
             try simp only [Act.put, List.setIfInBounds_toArray, List.set_cons_zero, List.set_cons_succ, Nat.reduceAdd])
        first
          | (refine wpH_skip (by rfl) (by rfl) ?_; try simp only [Act.put, List.setIfInBounds_toArray, List.set_cons_zero, List.set_cons_succ, Nat.reduceAdd])
          | (refine wpH_val (v := ?_) (by rfl) (by rfl) ?_ ?_; rotate_left; · (intro w' hS hF; go_simp; first | done | with_reducible rfl)
             try simp only [Act.put, List.setIfInBounds_toArray, List.set_cons_zero, List.set_cons_succ, Nat.reduceAdd])
        first
          | (refine wpH_skip (by rfl) (by rfl) ?_; try simp only [Act.put, List.setIfInBounds_toArray, List.set_cons_zero, List.set_cons_succ, Nat.reduceAdd])
          | (refine wpH_val (v := ?_) (by rfl) (by rfl) ?_ ?_; rotate_left; · (intro w' hS hF; go_simp; first | done | with_reducible rfl)
             try simp only [Act.put, List.setIfInBounds_toArray, List.set_cons_zero, List.set_cons_succ, Nat.reduceAdd])
        first
          | (refine wpH_skip (by rfl) (by rfl) ?_; try simp only [Act.put, List.setIfInBounds_toArray, List.set_cons_zero, List.set_cons_succ, Nat.reduceAdd])
          | (refine wpH_val (v := ?_) (by rfl) (by rfl) ?_ ?_; rotate_left; · (intro w' hS hF; go_simp; first | done | with_reducible rfl)
             try simp only [Act.put, List.setIfInBounds_toArray, List.set_cons_zero, List.set_cons_succ, Nat.reduceAdd])
        first
          | (refine wpH_skip (by rfl) (by rfl) ?_; try simp only [Act.put, List.setIfInBounds_toArray, List.set_cons_zero, List.set_cons_succ, Nat.reduceAdd])
          | (refine wpH_val (v := ?_) (by rfl) (by rfl) ?_ ?_; rotate_left; · (intro w' hS hF; go_simp; first | done | with_reducible rfl)
             try simp only [Act.put, List.setIfInBounds_toArray, List.set_cons_zero, List.set_cons_succ, Nat.reduceAdd])
        first
          | (refine wpH_skip (by rfl) (by rfl) ?_; try simp only [Act.put, List.setIfInBounds_toArray, List.set_cons_zero, List.set_cons_succ, Nat.reduceAdd])
          | (refine wpH_val (v := ?_) (by rfl) (by rfl) ?_ ?_; rotate_left; · (intro w' hS hF; go_simp; first | done | with_reducible rfl)
             try simp only [Act.put, List.setIfInBounds_toArray, List.set_cons_zero, List.set_cons_succ, Nat.reduceAdd])
        refine wpH_grow (by rfl) rfl (by rfl) (fun w' hS hF K hK => ?_) (fun g7 => ?_)
        · go_simp
          exact hK (none, w'.heap.size) _ (bl1 _ _) ⟨hS.size, Blk.new _ _ _⟩
        obtain ⟨Ag7, cg7⟩ := g7
        try dsimp only [gVal, gEmpty, gRow, gLit, gPtr]
        try simp only [Act.put, List.setIfInBounds_toArray, List.set_cons_zero, List.set_cons_succ, Nat.reduceAdd]
        refine wpH_grow (by rfl) rfl (by rfl) (fun w' hS hF K hK => ?_) (fun g8 => ?_)
        · have f7 : W4.heap.size ≤ _ ∧ Blk w' _ 5 #[.int .u8 i, .int .u8 T] := hF _ _ (.head _) (needs_of (by kernel_rfl))
          go_simp
          go_wp2_with (with_reducible refine ((small_any (k := 20) (xs := [(i : Int), (T : Int)]) (c := 2) (n := 2) rfl (by decide) (by decide) f7.2.rd).mono ?_))
          rintro e w2 rfl hb2
          exact hK (none, 0) w2 hb2 trivial
        obtain ⟨Ag8, cg8⟩ := g8
        try dsimp only [gVal, gEmpty, gRow, gLit, gPtr]
        try simp only [Act.put, List.setIfInBounds_toArray, List.set_cons_zero, List.set_cons_succ, Nat.reduceAdd]
        refine wpH_grow (by rfl) rfl (by rfl) (fun w' hS hF K hK => ?_) (fun g9 => ?_)
        · go_simp
          exact hK (none, w'.heap.size) _ (bl1 _ _) ⟨hS.size, Blk.new _ _ _⟩
        obtain ⟨Ag9, cg9⟩ := g9
        try dsimp only [gVal, gEmpty, gRow, gLit, gPtr]
        try simp only [Act.put, List.setIfInBounds_toArray, List.set_cons_zero, List.set_cons_succ, Nat.reduceAdd]
        refine wpH_tail (by rfl) ?_
        refine wpH_tail (by rfl) ?_
        refine wpH_done (fun w8 hS hF => ?_)
        have f9 := hF _ _ (.head _)
        have f8 := hF _ _ (.tail _ (.head _))
        have f7 := hF _ _ (.tail _ (.tail _ (.head _)))
        try dsimp only [gVal, gEmpty, gRow, gLit, gPtr] at f7 f8 f9
        clear hF
        simp only [List.filterMap_cons, List.filterMap_nil, List.getElem?_toArray, List.getElem?_cons_succ, List.getElem?_cons_zero]
        have hO8 := (HL.out.1.below hS).row
        rw [HQ.out] at hO8
        have HR8 := Lib.hid (Blk.rd (cs := (cm 20 i T 0 0 0 0).cs) f9.2)
        have hm1 : q + 1 ≤ maxLen := by unfold maxLen; omega
        have hm2 : (q + 1) * 40 ≤ 140737488355328 := by omega
        have hbz : base ≤ w8.heap.size := Nat.le_trans hbase4 hS.size
        refine wpList_app _ rfl (.tmp 28) (.tmp 37) 36 rfl base 35 _ 8 40 Try.underlying36 info35L rfl (by decide) Ac q cc _ rfl hO8 _ _ 1 1 (cm 20 i T 0 0 0 0).cs rfl rfl HR8.out (cs_one _) hm1 hm2 hbz ?_
        intro A9 c9 w9 ho9 hg9 hbk9
        have hP := HL.out.1.push (A9 := A9) (c9 := c9) hS hg9 HL.out.2 (by rw [HQ.out]; exact ho9)
        rw [HQ.out] at hP
        have B9 := ((HL.out.1.below hS).b).grown hg9 (own_blk_ne hO8 (HL.out.1.below hS).b (by decide))
        have bc9 := B9.cell
        have fz9 := B9.frozen
        have HP := Lib.hid hP
        clear hP ho9 hg9 hbk9 hO8 f9 hrule hS B9
        have hbn := Lib.hid (HB.out.trans ((HP.out.2.below hbase4)))
        have hLL := Lib.hid HP.out.1
        have hlt1 : 2 + i + 1 = 2 + (i + 1) := by omega
        rw [hlt1] at hLL
        clear HP HL HB HBX HQ hle HR8 bx hlt1 hiw hTw
        go_wp2_with fail
        go_roundw
        case rel => exact ⟨i + 1, by omega, by go_num, hLL.out, hbn.out⟩
        case measure => simp [intOf]; omega
      · obtain rfl : i = n := by omega
        have hsz : base ≤ wr.heap.size := by have h1 := hbw.size; have h2 := HW.out.2.2; omega
        have hRS := HX.out.2
        have hwb := HW.out.2.2
        rw [hwb] at hRS
        have E1 := Lib.hid (each65_any (A := A) (n := i) (c := c) hLS (by omega) hsz HX.out.1 (hRS.below hbw))
        have HBW := Lib.hid hbw
        have hfT : fT cl i ≤ 4 * i := fT_le (fun y hy => (HX.out.2.tab y hy).1) i
        obtain ⟨F, hF⟩ : ∃ F, fT cl i = F := ⟨_, rfl⟩
        have HF := Lib.hid hF
        clear hLS hbw hRS hwb hlt
        go_wp2_with fail
        refine E1.out.mono ?_
        rintro e w5 ⟨rfl, hL5, hC5⟩
        have hb5 := Lib.hid (HBW.out.trans (hC5.below hsz))
        have hsz5 : base ≤ w5.heap.size := Nat.le_trans hsz hC5.size
        rw [HF.out] at hL5
        have hRS := HX.out.2
        rw [HW.out.2.2] at hRS
        have E2 := Lib.hid (each66_any (A := A) (n := i) (c := c) hL5 (by rw [hF] at hfT; omega) hsz5 HX.out.1 (hRS.below hb5.out))
        clear E1 hL5 hC5 hRS
        go_wp2_with fail
        refine E2.out.mono ?_
        rintro e w6 ⟨rfl, hL6, hC6⟩
        rw [HF.out] at hL6
        have hb6 := Lib.hid (hb5.out.trans (hC6.below hsz5))
        have hL6' := Lib.hid (hL6.mono (show 2 + i + 1 * F + 8 * F ≤ 150 by rw [hF] at hfT; omega))
        have hsz6 : base ≤ w6.heap.size := Nat.le_trans hsz5 hC6.size
        clear E2 hL6 hC6 hfT hF HBW HF
        generalize hin : i = n at *
        clear hin hi
        go_wp2_with fail
        go_loopw [7, 48] (fun v jv wr => ∃ j : Nat, j ≤ n ∧ jv = .int .i64 j ∧ LD base go (150 + j) j v wr ∧ Below base w wr) (fun _ jv _ => n - (intOf jv).toNat)
        case atStart =>
          obtain ⟨Ac, cc, cl2, h⟩ := hL6'.out
          exact ⟨0, Nat.zero_le _, rfl, ⟨Ac, cc, cl2, none, 0, [], rfl, ⟨h, Own.nil _ _ _ _, .inl rfl, (fun x hx => by cases hx), Nat.le_refl _⟩⟩, hb6.out⟩
        case round =>
          obtain ⟨j, hj, rfl, hLD, hbw⟩ := hrel
          clear hb6 hL6'
          have hsz : base ≤ wr.heap.size := by have h1 := hbw.size; have h2 := HW.out.2.2; omega
          by_cases hlt : j < n
          · have hltI : (j : Int) < n := by omega
            obtain ⟨x, hx⟩ : ∃ x, cl[j]? = some x := ⟨_, List.getElem?_eq_getElem (by rw [HX.out.1]; exact hlt)⟩
            have hxm := List.mem_of_getElem? hx
            have hS := HX.out.2.below (by rw [HW.out.2.2]; exact hbw)
            obtain ⟨g, o, rfl, -, hc⟩ := hS.row (by
              intro e
              have h1 := lcells_len cl
              rw [e, HX.out.1] at h1
              simp at h1
              omega)
            have hxn := hS.num x hxm
            have c0 := hc _ _ (lcells_at hx (j := 0) rfl)
            have c1' := hc _ _ (lcells_at hx (j := 1) rfl)
            have c2 := hc _ _ (lcells_at hx (j := 2) rfl)
            have c3 := hc _ _ (lcells_at hx (j := 3) rfl)
            have c4 := hc _ _ (lcells_at hx (j := 4) rfl)
            have c5 := hc _ _ (lcells_at hx (j := 5) rfl)
            have c6 := hc _ _ (lcells_at hx (j := 6) rfl)
            have c7 := hc _ _ (lcells_at hx (j := 7) rfl)
            simp only [← Nat.add_assoc, Nat.add_zero] at c0 c1' c2 c3 c4 c5 c6 c7
            obtain ⟨T, hT⟩ : ∃ T, x.tabs.length = T := ⟨_, rfl⟩
            obtain ⟨xA, xc, tabs, first, stim, ev, pre, pri, on, ch⟩ := x
            simp only at c0 c1' c2 c3 c4 c5 c6 c7 hT hxn
            rw [hT] at c1'
            have b1 := bl1 wr (.cells #[.int .i64 first, .slice xA T xc, .bool stim, .int .u8 ev, .int .u8 pre, .int .u8 pri, .bool on, .bool ch] 71)
            have BX := Blk.new wr 71 #[.int .i64 first, .slice xA T xc, .bool stim, .int .u8 ev, .int .u8 pre, .int .u8 pri, .bool on, .bool ch]
            obtain ⟨Ac, cc, cl0, A2, c2', cl2, rfl, hL⟩ := hLD
            have hL := hL.below b1
            have hiw : IntKind.u8.wrap (j : Int) = j := IntWalk.u8_in _ (by omega)
            have hle := hL.l.le
            have hle2 := hL.le
            obtain ⟨q, hq⟩ : ∃ q, cl0.length = q := ⟨_, rfl⟩
            obtain ⟨q2, hq2⟩ : ∃ q2, cl2.length = q2 := ⟨_, rfl⟩
            rw [hq] at hle
            rw [hq2] at hle2
            have HQ := Lib.hid (And.intro hq hq2)
            try rw [hq2]
            obtain ⟨gx, hgx⟩ : ∃ gx, wr.heap.size = gx := ⟨_, rfl⟩
            rw [hgx] at BX
            have HL := Lib.hid hL
            have HBX := Lib.hid BX
            have HB := Lib.hid (hbw.trans (b1.mono hsz))
            have hjn : j < 256 := by omega
            clear hx hxm hS hc hbw b1 hL hq hq2 BX hT
            cases stim
            · have hbare : (cm 24 j 0 ev pre pri 0).bare := bare_cm (by decide) (by omega) (by decide) hxn.1 hxn.2.1 hxn.2.2 (by decide)
              have HBR := Lib.hid hbare
              clear hbare
              go_upto_region 18 with fail
              refine wp_named fun W4 hW4 => ?_
              try rw [hgx]
              rw [← hW4] at HL HB HBX
              have hbase4 : base ≤ W4.heap.size := by rw [hW4, World.size_alloc]; omega
              clear hW4 c0 c1' c2 c3 c4 c5 c6 c7 hgx
              have hrule := HL.out.l.b.rule
              rw [HQ.out.1] at hrule
              have bx := HBX.out.rule
              go_wp2_with fail
              refine wp_region_any (by kernel_rfl) ?_
              refine wpAny_g (fun w' => Below W4.heap.size W4 w') Bel (mkG [(10, gLit W4.heap.size 5 5 #[.int .u8 j, .int .u8 0, .int .u8 ev, .int .u8 pre, .int .u8 pri]), (11, gVal (cm 24 j 0 ev pre pri 0).val), (12, gLit W4.heap.size 35 1 (cm 24 j 0 ev pre pri 0).cs.toArray)]) [13, 14] [] (by kernel_rfl) (by kernel_rfl) (by kernel_rfl) (stays_mk _ _) (Below.refl _ _).drew ?_
              first
                | (refine wpH_skip (by rfl) (by rfl) ?_; try simp only [Act.put, List.setIfInBounds_toArray, List.set_cons_zero, List.set_cons_succ, Nat.reduceAdd])
                | (refine wpH_val (v := ?_) (by rfl) (by rfl) ?_ ?_; rotate_left; · (intro w' hS hF; go_simp; first | done | with_reducible rfl)
                   try simp only [Act.put, List.setIfInBounds_toArray, List.set_cons_zero, List.set_cons_succ, Nat.reduceAdd])
              first
                | (refine wpH_skip (by rfl) (by rfl) ?_; try simp only [Act.put, List.setIfInBounds_toArray, List.set_cons_zero, List.set_cons_succ, Nat.reduceAdd])
                | (refine wpH_val (v := ?_) (by rfl) (by rfl) ?_ ?_; rotate_left; · (intro w' hS hF; go_simp; first | done | with_reducible rfl)
                   try simp only [Act.put, List.setIfInBounds_toArray, List.set_cons_zero, List.set_cons_succ, Nat.reduceAdd])
              first
                | (refine wpH_skip (by rfl) (by rfl) ?_; try simp only [Act.put, List.setIfInBounds_toArray, List.set_cons_zero, List.set_cons_succ, Nat.reduceAdd])
                | (refine wpH_val (v := ?_) (by rfl) (by rfl) ?_ ?_; rotate_left; · (intro w' hS hF; go_simp; first | done | with_reducible rfl)
                   try simp only [Act.put, List.setIfInBounds_toArray, List.set_cons_zero, List.set_cons_succ, Nat.reduceAdd])
              first
                | (refine wpH_skip (by rfl) (by rfl) ?_; try simp only [Act.put, List.setIfInBounds_toArray, List.set_cons_zero, List.set_cons_succ, Nat.reduceAdd])
                | (refine wpH_val (v := ?_) (by rfl) (by rfl) ?_ ?_; rotate_left; · (intro w' hS hF; go_simp; first | done | with_reducible rfl)
                   try simp only [Act.put, List.setIfInBounds_toArray, List.set_cons_zero, List.set_cons_succ, Nat.reduceAdd])
              first
                | (refine wpH_skip (by rfl) (by rfl) ?_; try simp only [Act.put, List.setIfInBounds_toArray, List.set_cons_zero, List.set_cons_succ, Nat.reduceAdd])
                | (refine wpH_val (v := ?_) (by rfl) (by rfl) ?_ ?_; rotate_left; · (intro w' hS hF; go_simp; first | done | with_reducible rfl)
                   try simp only [Act.put, List.setIfInBounds_toArray, List.set_cons_zero, List.set_cons_succ, Nat.reduceAdd])
              first
                | (refine wpH_skip (by rfl) (by rfl) ?_; try simp only [Act.put, List.setIfInBounds_toArray, List.set_cons_zero, List.set_cons_succ, Nat.reduceAdd])
                | (refine wpH_val (v := ?_) (by rfl) (by rfl) ?_ ?_; rotate_left; · (intro w' hS hF; go_simp; first | done | with_reducible rfl)
                   try simp only [Act.put, List.setIfInBounds_toArray, List.set_cons_zero, List.set_cons_succ, Nat.reduceAdd])
              first
                | (refine wpH_skip (by rfl) (by rfl) ?_; try simp only [Act.put, List.setIfInBounds_toArray, List.set_cons_zero, List.set_cons_succ, Nat.reduceAdd])
                | (refine wpH_val (v := ?_) (by rfl) (by rfl) ?_ ?_; rotate_left; · (intro w' hS hF; go_simp; first | done | with_reducible rfl)
                   try simp only [Act.put, List.setIfInBounds_toArray, List.set_cons_zero, List.set_cons_succ, Nat.reduceAdd])
              first
                | (refine wpH_skip (by rfl) (by rfl) ?_; try simp only [Act.put, List.setIfInBounds_toArray, List.set_cons_zero, List.set_cons_succ, Nat.reduceAdd])
                | (refine wpH_val (v := ?_) (by rfl) (by rfl) ?_ ?_; rotate_left; · (intro w' hS hF; go_simp; first | done | with_reducible rfl)
                   try simp only [Act.put, List.setIfInBounds_toArray, List.set_cons_zero, List.set_cons_succ, Nat.reduceAdd])
              first
                | (refine wpH_skip (by rfl) (by rfl) ?_; try simp only [Act.put, List.setIfInBounds_toArray, List.set_cons_zero, List.set_cons_succ, Nat.reduceAdd])
                | (refine wpH_val (v := ?_) (by rfl) (by rfl) ?_ ?_; rotate_left; · (intro w' hS hF; go_simp; first | done | with_reducible rfl)
                   try simp only [Act.put, List.setIfInBounds_toArray, List.set_cons_zero, List.set_cons_succ, Nat.reduceAdd])
              first
                | (refine wpH_skip (by rfl) (by rfl) ?_; try simp only [Act.put, List.setIfInBounds_toArray, List.set_cons_zero, List.set_cons_succ, Nat.reduceAdd])
                | (refine wpH_val (v := ?_) (by rfl) (by rfl) ?_ ?_; rotate_left; · (intro w' hS hF; go_simp; first | done | with_reducible rfl)
                   try simp only [Act.put, List.setIfInBounds_toArray, List.set_cons_zero, List.set_cons_succ, Nat.reduceAdd])
              refine wpH_grow (by rfl) rfl (by rfl) (fun w' hS hF K hK => ?_) (fun g10 => ?_)
              · go_simp
                exact hK (none, w'.heap.size) _ (bl1 _ _) ⟨hS.size, Blk.new _ _ _⟩
              obtain ⟨Ag10, cg10⟩ := g10
              try dsimp only [gVal, gEmpty, gRow, gLit, gPtr]
              try simp only [Act.put, List.setIfInBounds_toArray, List.set_cons_zero, List.set_cons_succ, Nat.reduceAdd]
              refine wpH_grow (by rfl) rfl (by rfl) (fun w' hS hF K hK => ?_) (fun g11 => ?_)
              · have f10 : W4.heap.size ≤ _ ∧ Blk w' _ 5 #[.int .u8 j, .int .u8 0, .int .u8 ev, .int .u8 pre, .int .u8 pri] := hF _ _ (.head _) (needs_of (by kernel_rfl))
                go_simp
                go_wp2_with (with_reducible refine ((small_any (k := 24) (xs := [(j : Int), 0, ev, pre, pri]) (c := 5) (n := 5) rfl (by decide) (by decide) f10.2.rd).mono ?_))
                rintro e w2 rfl hb2
                exact hK (none, 0) w2 hb2 trivial
              obtain ⟨Ag11, cg11⟩ := g11
              try dsimp only [gVal, gEmpty, gRow, gLit, gPtr]
              try simp only [Act.put, List.setIfInBounds_toArray, List.set_cons_zero, List.set_cons_succ, Nat.reduceAdd]
              refine wpH_grow (by rfl) rfl (by rfl) (fun w' hS hF K hK => ?_) (fun g12 => ?_)
              · go_simp
                exact hK (none, w'.heap.size) _ (bl1 _ _) ⟨hS.size, Blk.new _ _ _⟩
              obtain ⟨Ag12, cg12⟩ := g12
              try dsimp only [gVal, gEmpty, gRow, gLit, gPtr]
              try simp only [Act.put, List.setIfInBounds_toArray, List.set_cons_zero, List.set_cons_succ, Nat.reduceAdd]
              refine wpH_tail (by rfl) ?_
              refine wpH_tail (by rfl) ?_
              refine wpH_done (fun w8 hS hF => ?_)
              have f12 := hF _ _ (.head _)
              have f11 := hF _ _ (.tail _ (.head _))
              have f10 := hF _ _ (.tail _ (.tail _ (.head _)))
              try dsimp only [gVal, gEmpty, gRow, gLit, gPtr] at f10 f11 f12
              clear hF
              simp only [List.filterMap_cons, List.filterMap_nil, List.getElem?_toArray, List.getElem?_cons_succ, List.getElem?_cons_zero]
              have hO8 := (HL.out.l.below hS).row
              rw [HQ.out.1] at hO8
              have HR8 := Lib.hid (Blk.rd (cs := (cm 24 j 0 ev pre pri 0).cs) f12.2)
              have hm1 : q + 1 ≤ maxLen := by unfold maxLen; omega
              have hm2 : (q + 1) * 40 ≤ 140737488355328 := by omega
              have hbz : base ≤ w8.heap.size := Nat.le_trans hbase4 hS.size
              refine wpList_app _ rfl (.tmp 55) (.tmp 67) 36 rfl base 35 _ 8 40 Try.underlying36 info35L rfl (by decide) Ac q cc _ rfl hO8 _ _ 1 1 (cm 24 j 0 ev pre pri 0).cs rfl rfl HR8.out (cs_one _) hm1 hm2 hbz ?_
              intro A9 c9 w9 ho9 hg9 hbk9
              have hP := HL.out.push (A9 := A9) (c9 := c9) hS hg9 HBR.out (by rw [HQ.out.1]; exact ho9) hbk9
              rw [HQ.out.1, HQ.out.2] at hP
              have B9 := ((HL.out.l.below hS).b).grown hg9 (own_blk_ne hO8 (HL.out.l.below hS).b (by decide))
              have bc9 := B9.cell
              have fz9 := B9.frozen
              have HP := Lib.hid hP
              have HX9 : Hid (Blk (w9.setCell ⟨go, 0, none⟩ (.slice A9 (q + 1) c9)) gx 71 #[.int .i64 first, .slice xA T xc, .bool false, .int .u8 ev, .int .u8 pre, .int .u8 pri, .bool on, .bool ch]) := Lib.hid (HBX.out.chT hP.2 (by decide))
              have HB9 := Lib.hid (HB.out.trans (hP.2.below hbase4))
              have hsz9 : base ≤ (w9.setCell ⟨go, 0, none⟩ (.slice A9 (q + 1) c9)).heap.size := Nat.le_trans hbase4 hP.2.size
              clear hP ho9 hg9 hbk9 hO8 f10 f11 f12 hrule hS B9 HL HB HBX HR8 bx hm1 hm2 hbz
              have hx9 := HX9.out.cell
              go_upto_region 19 with fail
              refine wp_named fun W9 hW9 => ?_
              rw [← hW9] at HP HX9 HB9 hx9 hsz9
              clear hW9 bc9 fz9
              have hj1 : 150 + j + 1 = 150 + (j + 1) := by omega
              cases ch
              · have HPL := Lib.hid HP.out.1
                rw [hj1] at HPL
                have HPL2 : Hid (LD base go (150 + (j + 1)) (j + 1) (.slice A2 q2 c2') W9) := by
                  obtain ⟨a1, a2, a3, a4, a5, a6, a7, a8⟩ := HPL.out
                  exact Lib.hid ⟨a1, a2, a3, a4, a5, a6, a7, a8.l, a8.row, a8.ne, a8.bare, by have := a8.le; omega⟩
                clear HP HPL hj1 hiw
                go_wp2_with fail
                go_roundw
                case rel => exact ⟨j + 1, by omega, by go_num, HPL2.out, HB9.out⟩
                case measure => simp [intOf]; omega
              · obtain ⟨Ad, cd, cl0', A2', c2'', cl2', hv, hL9⟩ := HP.out.1
                injection hv with hv1 hv2 hv3
                subst hv1
                subst hv3
                have HV := Lib.hid hv2
                clear hv2
                have b1 := bl1 W9 (.cells #[.int .u8 j, .int .u8 2] 5)
                have S2 := Lib.hid (small_any (w := W9.alloc (.cells #[.int .u8 j, .int .u8 2] 5)) (k := 25) (xs := [(j : Int), 2]) (n := 2) (c := 2) rfl (by decide) (by decide) (Blk.rd (cs := [.int .u8 j, .int .u8 2]) (Blk.new W9 5 #[.int .u8 j, .int .u8 2])))
                have HL9 := Lib.hid (hL9.below b1)
                have HBB := Lib.hid (HB9.out.trans (b1.mono hsz9))
                have hszA : base ≤ (W9.alloc (.cells #[.int .u8 j, .int .u8 2] 5)).heap.size := Nat.le_trans hsz9 b1.size
                clear b1 HP hL9 HX9 HBR
                go_wp2_with fail
                refine S2.out.mono ?_
                rintro e wa ⟨rfl, hba⟩
                have hszw : base ≤ wa.heap.size := Nat.le_trans hszA hba.size
                have b2 := bl1 wa (.cells (cm 25 j 2 0 0 0 0).cs.toArray 35)
                have HLa := Lib.hid ((HL9.out.below hba).below b2)
                have HBa := Lib.hid (HBB.out.trans ((hba.mono hszA).trans (b2.mono hszw)))
                have HRa := Lib.hid (Blk.rd (cs := (cm 25 j 2 0 0 0 0).cs) (Blk.new wa 35 (cm 25 j 2 0 0 0 0).cs.toArray))
                have hOa := HLa.out.row
                rw [← HV.out] at hOa
                have hm1 : q2 + 1 ≤ maxLen := by unfold maxLen; omega
                have hm2 : (q2 + 1) * 40 ≤ 140737488355328 := by omega
                have hbz : base ≤ (wa.alloc (.cells (cm 25 j 2 0 0 0 0).cs.toArray 35)).heap.size := Nat.le_trans hszw b2.size
                clear b2 hba S2 HL9 HBB
                go_wp2_with (at_builtin; refine wpList_app _ rfl (.tmp 71) (.tmp 76) 36 rfl base 35 _ 8 40 Try.underlying36 info35L rfl (by decide) A2 q2 c2' _ rfl hOa _ _ 1 1 (cm 25 j 2 0 0 0 0).cs rfl rfl HRa.out (cs_one _) hm1 hm2 hbz ?_; intro A8 c8 w8 ho8 hg8 hbk8)
                have hP := HLa.out.push2 (A9 := A8) (c9 := c8) hg8 (y := cm 25 j 2 0 0 0 0) (bare_cm (by decide) (by omega) (by decide) (by decide) (by decide) (by decide) (by decide)) (by rw [← HV.out]; exact ho8) hbk8
                rw [← HV.out, hj1] at hP
                have HP2 := Lib.hid hP.1
                have HB2 := Lib.hid (HBa.out.trans (hP.2.below hbz))
                clear hP ho8 hg8 hbk8 hOa HLa hj1 hiw hm1 hm2 hbz
                go_roundw
                case rel => exact ⟨j + 1, by omega, by go_num, HP2.out, HB2.out⟩
                case measure => simp [intOf]; omega
            · have hbare : (cm 24 j 1 ev pre pri 0).bare := bare_cm (by decide) (by omega) (by decide) hxn.1 hxn.2.1 hxn.2.2 (by decide)
              have HBR := Lib.hid hbare
              clear hbare
              go_upto_region 18 with fail
              refine wp_named fun W4 hW4 => ?_
              try rw [hgx]
              rw [← hW4] at HL HB HBX
              have hbase4 : base ≤ W4.heap.size := by rw [hW4, World.size_alloc]; omega
              clear hW4 c0 c1' c2 c3 c4 c5 c6 c7 hgx
              have hrule := HL.out.l.b.rule
              rw [HQ.out.1] at hrule
              have bx := HBX.out.rule
              go_wp2_with fail
              refine wp_region_any (by kernel_rfl) ?_
              refine wpAny_g (fun w' => Below W4.heap.size W4 w') Bel (mkG [(10, gLit W4.heap.size 5 5 #[.int .u8 j, .int .u8 1, .int .u8 ev, .int .u8 pre, .int .u8 pri]), (11, gVal (cm 24 j 1 ev pre pri 0).val), (12, gLit W4.heap.size 35 1 (cm 24 j 1 ev pre pri 0).cs.toArray)]) [13, 14] [] (by kernel_rfl) (by kernel_rfl) (by kernel_rfl) (stays_mk _ _) (Below.refl _ _).drew ?_
              first
                | (refine wpH_skip (by rfl) (by rfl) ?_; try simp only [Act.put, List.setIfInBounds_toArray, List.set_cons_zero, List.set_cons_succ, Nat.reduceAdd])
                | (refine wpH_val (v := ?_) (by rfl) (by rfl) ?_ ?_; rotate_left; · (intro w' hS hF; go_simp; first | done | with_reducible rfl)
                   try simp only [Act.put, List.setIfInBounds_toArray, List.set_cons_zero, List.set_cons_succ, Nat.reduceAdd])
              first
                | (refine wpH_skip (by rfl) (by rfl) ?_; try simp only [Act.put, List.setIfInBounds_toArray, List.set_cons_zero, List.set_cons_succ, Nat.reduceAdd])
                | (refine wpH_val (v := ?_) (by rfl) (by rfl) ?_ ?_; rotate_left; · (intro w' hS hF; go_simp; first | done | with_reducible rfl)
                   try simp only [Act.put, List.setIfInBounds_toArray, List.set_cons_zero, List.set_cons_succ, Nat.reduceAdd])
              first
                | (refine wpH_skip (by rfl) (by rfl) ?_; try simp only [Act.put, List.setIfInBounds_toArray, List.set_cons_zero, List.set_cons_succ, Nat.reduceAdd])
                | (refine wpH_val (v := ?_) (by rfl) (by rfl) ?_ ?_; rotate_left; · (intro w' hS hF; go_simp; first | done | with_reducible rfl)
                   try simp only [Act.put, List.setIfInBounds_toArray, List.set_cons_zero, List.set_cons_succ, Nat.reduceAdd])
              first
                | (refine wpH_skip (by rfl) (by rfl) ?_; try simp only [Act.put, List.setIfInBounds_toArray, List.set_cons_zero, List.set_cons_succ, Nat.reduceAdd])
                | (refine wpH_val (v := ?_) (by rfl) (by rfl) ?_ ?_; rotate_left; · (intro w' hS hF; go_simp; first | done | with_reducible rfl)
                   try simp only [Act.put, List.setIfInBounds_toArray, List.set_cons_zero, List.set_cons_succ, Nat.reduceAdd])
              first
                | (refine wpH_skip (by rfl) (by rfl) ?_; try simp only [Act.put, List.setIfInBounds_toArray, List.set_cons_zero, List.set_cons_succ, Nat.reduceAdd])
                | (refine wpH_val (v := ?_) (by rfl) (by rfl) ?_ ?_; rotate_left; · (intro w' hS hF; go_simp; first | done | with_reducible rfl)
                   try simp only [Act.put, List.setIfInBounds_toArray, List.set_cons_zero, List.set_cons_succ, Nat.reduceAdd])
              first
                | (refine wpH_skip (by rfl) (by rfl) ?_; try simp only [Act.put, List.setIfInBounds_toArray, List.set_cons_zero, List.set_cons_succ, Nat.reduceAdd])
                | (refine wpH_val (v := ?_) (by rfl) (by rfl) ?_ ?_; rotate_left; · (intro w' hS hF; go_simp; first | done | with_reducible rfl)
                   try simp only [Act.put, List.setIfInBounds_toArray, List.set_cons_zero, List.set_cons_succ, Nat.reduceAdd])
              first
                | (refine wpH_skip (by rfl) (by rfl) ?_; try simp only [Act.put, List.setIfInBounds_toArray, List.set_cons_zero, List.set_cons_succ, Nat.reduceAdd])
                | (refine wpH_val (v := ?_) (by rfl) (by rfl) ?_ ?_; rotate_left; · (intro w' hS hF; go_simp; first | done | with_reducible rfl)
                   try simp only [Act.put, List.setIfInBounds_toArray, List.set_cons_zero, List.set_cons_succ, Nat.reduceAdd])
              first
                | (refine wpH_skip (by rfl) (by rfl) ?_; try simp only [Act.put, List.setIfInBounds_toArray, List.set_cons_zero, List.set_cons_succ, Nat.reduceAdd])
                | (refine wpH_val (v := ?_) (by rfl) (by rfl) ?_ ?_; rotate_left; · (intro w' hS hF; go_simp; first | done | with_reducible rfl)
                   try simp only [Act.put, List.setIfInBounds_toArray, List.set_cons_zero, List.set_cons_succ, Nat.reduceAdd])
              first
                | (refine wpH_skip (by rfl) (by rfl) ?_; try simp only [Act.put, List.setIfInBounds_toArray, List.set_cons_zero, List.set_cons_succ, Nat.reduceAdd])
                | (refine wpH_val (v := ?_) (by rfl) (by rfl) ?_ ?_; rotate_left; · (intro w' hS hF; go_simp; first | done | with_reducible rfl)
                   try simp only [Act.put, List.setIfInBounds_toArray, List.set_cons_zero, List.set_cons_succ, Nat.reduceAdd])
              first
                | (refine wpH_skip (by rfl) (by rfl) ?_; try simp only [Act.put, List.setIfInBounds_toArray, List.set_cons_zero, List.set_cons_succ, Nat.reduceAdd])
                | (refine wpH_val (v := ?_) (by rfl) (by rfl) ?_ ?_; rotate_left; · (intro w' hS hF; go_simp; first | done | with_reducible rfl)
                   try simp only [Act.put, List.setIfInBounds_toArray, List.set_cons_zero, List.set_cons_succ, Nat.reduceAdd])
              refine wpH_grow (by rfl) rfl (by rfl) (fun w' hS hF K hK => ?_) (fun g10 => ?_)
              · go_simp
                exact hK (none, w'.heap.size) _ (bl1 _ _) ⟨hS.size, Blk.new _ _ _⟩
              obtain ⟨Ag10, cg10⟩ := g10
              try dsimp only [gVal, gEmpty, gRow, gLit, gPtr]
              try simp only [Act.put, List.setIfInBounds_toArray, List.set_cons_zero, List.set_cons_succ, Nat.reduceAdd]
              refine wpH_grow (by rfl) rfl (by rfl) (fun w' hS hF K hK => ?_) (fun g11 => ?_)
              · have f10 : W4.heap.size ≤ _ ∧ Blk w' _ 5 #[.int .u8 j, .int .u8 1, .int .u8 ev, .int .u8 pre, .int .u8 pri] := hF _ _ (.head _) (needs_of (by kernel_rfl))
                go_simp
                go_wp2_with (with_reducible refine ((small_any (k := 24) (xs := [(j : Int), 1, ev, pre, pri]) (c := 5) (n := 5) rfl (by decide) (by decide) f10.2.rd).mono ?_))
                rintro e w2 rfl hb2
                exact hK (none, 0) w2 hb2 trivial
              obtain ⟨Ag11, cg11⟩ := g11
              try dsimp only [gVal, gEmpty, gRow, gLit, gPtr]
              try simp only [Act.put, List.setIfInBounds_toArray, List.set_cons_zero, List.set_cons_succ, Nat.reduceAdd]
              refine wpH_grow (by rfl) rfl (by rfl) (fun w' hS hF K hK => ?_) (fun g12 => ?_)
              · go_simp
                exact hK (none, w'.heap.size) _ (bl1 _ _) ⟨hS.size, Blk.new _ _ _⟩
              obtain ⟨Ag12, cg12⟩ := g12
              try dsimp only [gVal, gEmpty, gRow, gLit, gPtr]
              try simp only [Act.put, List.setIfInBounds_toArray, List.set_cons_zero, List.set_cons_succ, Nat.reduceAdd]
              refine wpH_tail (by rfl) ?_
              refine wpH_tail (by rfl) ?_
              refine wpH_done (fun w8 hS hF => ?_)
              have f12 := hF _ _ (.head _)
              have f11 := hF _ _ (.tail _ (.head _))
              have f10 := hF _ _ (.tail _ (.tail _ (.head _)))
              try dsimp only [gVal, gEmpty, gRow, gLit, gPtr] at f10 f11 f12
              clear hF
              simp only [List.filterMap_cons, List.filterMap_nil, List.getElem?_toArray, List.getElem?_cons_succ, List.getElem?_cons_zero]
              have hO8 := (HL.out.l.below hS).row
              rw [HQ.out.1] at hO8
              have HR8 := Lib.hid (Blk.rd (cs := (cm 24 j 1 ev pre pri 0).cs) f12.2)
              have hm1 : q + 1 ≤ maxLen := by unfold maxLen; omega
              have hm2 : (q + 1) * 40 ≤ 140737488355328 := by omega
              have hbz : base ≤ w8.heap.size := Nat.le_trans hbase4 hS.size
              refine wpList_app _ rfl (.tmp 55) (.tmp 67) 36 rfl base 35 _ 8 40 Try.underlying36 info35L rfl (by decide) Ac q cc _ rfl hO8 _ _ 1 1 (cm 24 j 1 ev pre pri 0).cs rfl rfl HR8.out (cs_one _) hm1 hm2 hbz ?_
              intro A9 c9 w9 ho9 hg9 hbk9
              have hP := HL.out.push (A9 := A9) (c9 := c9) hS hg9 HBR.out (by rw [HQ.out.1]; exact ho9) hbk9
              rw [HQ.out.1, HQ.out.2] at hP
              have B9 := ((HL.out.l.below hS).b).grown hg9 (own_blk_ne hO8 (HL.out.l.below hS).b (by decide))
              have bc9 := B9.cell
              have fz9 := B9.frozen
              have HP := Lib.hid hP
              have HX9 : Hid (Blk (w9.setCell ⟨go, 0, none⟩ (.slice A9 (q + 1) c9)) gx 71 #[.int .i64 first, .slice xA T xc, .bool true, .int .u8 ev, .int .u8 pre, .int .u8 pri, .bool on, .bool ch]) := Lib.hid (HBX.out.chT hP.2 (by decide))
              have HB9 := Lib.hid (HB.out.trans (hP.2.below hbase4))
              have hsz9 : base ≤ (w9.setCell ⟨go, 0, none⟩ (.slice A9 (q + 1) c9)).heap.size := Nat.le_trans hbase4 hP.2.size
              clear hP ho9 hg9 hbk9 hO8 f10 f11 f12 hrule hS B9 HL HB HBX HR8 bx hm1 hm2 hbz
              have hx9 := HX9.out.cell
              go_upto_region 19 with fail
              refine wp_named fun W9 hW9 => ?_
              rw [← hW9] at HP HX9 HB9 hx9 hsz9
              clear hW9 bc9 fz9
              have hj1 : 150 + j + 1 = 150 + (j + 1) := by omega
              cases ch
              · have HPL := Lib.hid HP.out.1
                rw [hj1] at HPL
                have HPL2 : Hid (LD base go (150 + (j + 1)) (j + 1) (.slice A2 q2 c2') W9) := by
                  obtain ⟨a1, a2, a3, a4, a5, a6, a7, a8⟩ := HPL.out
                  exact Lib.hid ⟨a1, a2, a3, a4, a5, a6, a7, a8.l, a8.row, a8.ne, a8.bare, by have := a8.le; omega⟩
                clear HP HPL hj1 hiw
                go_wp2_with fail
                go_roundw
                case rel => exact ⟨j + 1, by omega, by go_num, HPL2.out, HB9.out⟩
                case measure => simp [intOf]; omega
              · obtain ⟨Ad, cd, cl0', A2', c2'', cl2', hv, hL9⟩ := HP.out.1
                injection hv with hv1 hv2 hv3
                subst hv1
                subst hv3
                have HV := Lib.hid hv2
                clear hv2
                have b1 := bl1 W9 (.cells #[.int .u8 j, .int .u8 2] 5)
                have S2 := Lib.hid (small_any (w := W9.alloc (.cells #[.int .u8 j, .int .u8 2] 5)) (k := 25) (xs := [(j : Int), 2]) (n := 2) (c := 2) rfl (by decide) (by decide) (Blk.rd (cs := [.int .u8 j, .int .u8 2]) (Blk.new W9 5 #[.int .u8 j, .int .u8 2])))
                have HL9 := Lib.hid (hL9.below b1)
                have HBB := Lib.hid (HB9.out.trans (b1.mono hsz9))
                have hszA : base ≤ (W9.alloc (.cells #[.int .u8 j, .int .u8 2] 5)).heap.size := Nat.le_trans hsz9 b1.size
                clear b1 HP hL9 HX9 HBR
                go_wp2_with fail
                refine S2.out.mono ?_
                rintro e wa ⟨rfl, hba⟩
                have hszw : base ≤ wa.heap.size := Nat.le_trans hszA hba.size
                have b2 := bl1 wa (.cells (cm 25 j 2 0 0 0 0).cs.toArray 35)
                have HLa := Lib.hid ((HL9.out.below hba).below b2)
                have HBa := Lib.hid (HBB.out.trans ((hba.mono hszA).trans (b2.mono hszw)))
                have HRa := Lib.hid (Blk.rd (cs := (cm 25 j 2 0 0 0 0).cs) (Blk.new wa 35 (cm 25 j 2 0 0 0 0).cs.toArray))
                have hOa := HLa.out.row
                rw [← HV.out] at hOa
                have hm1 : q2 + 1 ≤ maxLen := by unfold maxLen; omega
                have hm2 : (q2 + 1) * 40 ≤ 140737488355328 := by omega
                have hbz : base ≤ (wa.alloc (.cells (cm 25 j 2 0 0 0 0).cs.toArray 35)).heap.size := Nat.le_trans hszw b2.size
                clear b2 hba S2 HL9 HBB
                go_wp2_with (at_builtin; refine wpList_app _ rfl (.tmp 71) (.tmp 76) 36 rfl base 35 _ 8 40 Try.underlying36 info35L rfl (by decide) A2 q2 c2' _ rfl hOa _ _ 1 1 (cm 25 j 2 0 0 0 0).cs rfl rfl HRa.out (cs_one _) hm1 hm2 hbz ?_; intro A8 c8 w8 ho8 hg8 hbk8)
                have hP := HLa.out.push2 (A9 := A8) (c9 := c8) hg8 (y := cm 25 j 2 0 0 0 0) (bare_cm (by decide) (by omega) (by decide) (by decide) (by decide) (by decide) (by decide)) (by rw [← HV.out]; exact ho8) hbk8
                rw [← HV.out, hj1] at hP
                have HP2 := Lib.hid hP.1
                have HB2 := Lib.hid (HBa.out.trans (hP.2.below hbz))
                clear hP ho8 hg8 hbk8 hOa HLa hj1 hiw hm1 hm2 hbz
                go_roundw
                case rel => exact ⟨j + 1, by omega, by go_num, HP2.out, HB2.out⟩
                case measure => simp [intOf]; omega
          · obtain rfl : j = n := by omega
            obtain ⟨Ac, cc, cl0, A2, c2', cl2, rfl, hL⟩ := hLD
            have hle := hL.l.le
            have hle2 := hL.le
            obtain ⟨q, hq⟩ : ∃ q, cl0.length = q := ⟨_, rfl⟩
            obtain ⟨q2, hq2⟩ : ∃ q2, cl2.length = q2 := ⟨_, rfl⟩
            rw [hq] at hle
            rw [hq2] at hle2
            have HQ := Lib.hid (And.intro hq hq2)
            try rw [hq2]
            have HL := Lib.hid hL
            have HB := Lib.hid hbw
            have hO := hL.l.row
            rw [hq] at hO
            have hB0 := hL.l.b
            rw [hq] at hB0
            have bo := hB0.cell
            have HR2 := Lib.hid hL.row.rd
            have HN2 : Hid ((cmsC cl2).length = q2 * 8) := Lib.hid (by rw [cmsC_len, hq2])
            have hm1 : q + q2 ≤ maxLen := by unfold maxLen; omega
            have hm2 : (q + q2) * 40 ≤ 140737488355328 := by omega
            have HB00 := Lib.hid hB0
            have S3 : Hid (∀ w8 : World, Calls Try.prog 59 #[.int .u8 26, .slice (some ⟨w8.heap.size, 0, none⟩) 1 1] (w8.alloc (.cells #[.int .u8 1] 5)) fun e w' => e = .returned (cmL 26 [1] 0).val ∧ Below (w8.alloc (.cells #[.int .u8 1] 5)).heap.size (w8.alloc (.cells #[.int .u8 1] 5)) w') := Lib.hid fun w8 => small_any (w := w8.alloc (.cells #[.int .u8 1] 5)) (k := 26) (xs := [1]) (n := 1) (c := 1) rfl (by decide) (by decide) (Blk.rd (cs := [.int .u8 1]) (Blk.new w8 5 #[.int .u8 1]))
            have HO0 := Lib.hid hO
            clear hL hbw hlt hq hq2 hB0
            go_wp2_with (at_builtin; refine wpList_app _ rfl (.tmp 79) (.tmp 80) 36 rfl base 35 _ 8 40 Try.underlying36 info35L rfl (by decide) Ac q cc _ rfl hO _ A2 q2 c2' (cmsC cl2) rfl HN2.out HR2.out (cms_one _) hm1 hm2 hsz ?_; intro A8 c8 w8 ho8 hg8 hbk8)
            have hgo8 := own_blk_ne HO0.out HB00.out (by decide)
            have hb8 : Below base w w8 := HB.out.grown hg8 hsz (fun r hr => (HO0.out.lt hr).1)
            have b1 := bl1 w8 (.cells #[.int .u8 1] 5)
            have hsz8 : base ≤ w8.heap.size := Nat.le_trans hsz hg8.size
            have HA := Lib.hid (And.intro ((HB00.out.grown hg8 hgo8).below b1) (And.intro (ho8.below b1) (hb8.trans (b1.mono hsz8))))
            have hszA : base ≤ (w8.alloc (.cells #[.int .u8 1] 5)).heap.size := Nat.le_trans hsz8 b1.size
            clear hO bo HR2 HN2 hm1 hm2 ho8 hg8 hbk8 hgo8 hb8 b1
            refine (S3.out w8).mono ?_
            rintro e wa ⟨rfl, hba⟩
            have hszw : base ≤ wa.heap.size := Nat.le_trans hszA hba.size
            have b2 := bl1 wa (.cells (cm 26 1 0 0 0 0 0).cs.toArray 35)
            have HC := Lib.hid (And.intro ((HA.out.1.below hba).below b2) (And.intro ((HA.out.2.1.below hba).below b2) (HA.out.2.2.trans ((hba.mono hszA).trans (b2.mono hszw)))))
            have HRa := Lib.hid (Blk.rd (cs := (cm 26 1 0 0 0 0 0).cs) (Blk.new wa 35 (cm 26 1 0 0 0 0 0).cs.toArray))
            have hOa := HC.out.2.1
            obtain ⟨Q, hQ⟩ : ∃ Q, q + q2 = Q := ⟨_, rfl⟩
            rw [hQ] at hOa
            try rw [hQ]
            have hQ160 : Q ≤ 160 := by omega
            have hm1 : Q + 1 ≤ maxLen := by unfold maxLen; omega
            have hm2 : (Q + 1) * 40 ≤ 140737488355328 := by omega
            have hbz : base ≤ (wa.alloc (.cells (cm 26 1 0 0 0 0 0).cs.toArray 35)).heap.size := Nat.le_trans hszw b2.size
            clear b2 hba S3
            have HF7 : Hid (∀ (A7 : Option Addr) (c7 : Nat) (w7 : World), Own w7 base 35 8 A7 (Q + 1) c7 (cmsC cl0 ++ cmsC cl2 ++ (cm 26 1 0 0 0 0 0).cs) → (wa.alloc (.cells (cm 26 1 0 0 0 0 0).cs.toArray 35)).grownBy w7 (blkOf A8) → Below base w (w7.setCell ⟨go, 0, none⟩ (.slice A7 (Q + 1) c7)) ∧ Own (w7.setCell ⟨go, 0, none⟩ (.slice A7 (Q + 1) c7)) base 35 8 A7 (Q + 1) c7 (cmsC cl0 ++ cmsC cl2 ++ (cm 26 1 0 0 0 0 0).cs)) := Lib.hid fun A7 c7 w7 ho7 hg7 => by
              have B7 := HC.out.1.grown hg7 (own_blk_ne HC.out.2.1 HC.out.1 (by decide))
              refine ⟨(HC.out.2.2.grown hg7 hbz (fun r hr => (HC.out.2.1.lt hr).1)).setCell (p := ⟨go, 0, none⟩) (HL.out.l.gb) _, ho7.far (p := ⟨go, 0, none⟩) (fun e => ?_) _⟩
              obtain ⟨cs, hcs⟩ := ho7.row e
              have := blk_ty hcs B7
              cases this
            have HLEN : Hid ((cl0 ++ cl2 ++ [cm 26 1 0 0 0 0 0]).length = Q + 1) := Lib.hid (by simp only [List.length_append, List.length_singleton, HQ.out.1, HQ.out.2]; omega)
            have HCS : Hid (cmsC (cl0 ++ cl2 ++ [cm 26 1 0 0 0 0 0]) = cmsC cl0 ++ cmsC cl2 ++ (cm 26 1 0 0 0 0 0).cs) := Lib.hid (by rw [cmsC_snoc]; unfold cmsC; rw [flatC_app])
            have HBR : Hid (∀ x ∈ cl0 ++ cl2 ++ [cm 26 1 0 0 0 0 0], x.bare) := Lib.hid fun x hx => by
              rcases List.mem_append.1 hx with hx | hx
              · rcases List.mem_append.1 hx with hx | hx
                · exact HL.out.l.bare x hx
                · exact HL.out.bare x hx
              · rw [List.mem_singleton.1 hx]
                exact bare_cm (by decide) (by decide) (by decide) (by decide) (by decide) (by decide) (by decide)
            have hwb := HW.out.2.2
            by_cases h64 : 64 < Q + 1
            · have h64I : (64 : Int) < (Q : Int) + 1 := by omega
              have h64J : (64 : Int) < ((Q + 1 : Nat) : Int) := by omega
              go_wp2_with (at_builtin; refine wpList_app _ rfl (.tmp 81) (.tmp 84) 36 rfl base 35 _ 8 40 Try.underlying36 info35L rfl (by decide) A8 Q c8 _ rfl hOa _ _ 1 1 (cm 26 1 0 0 0 0 0).cs rfl rfl HRa.out (cs_one _) hm1 hm2 hbz ?_; intro A7 c7 w7 ho7 hg7 hbk7; have B7 := HC.out.1.grown hg7 (own_blk_ne hOa HC.out.1 (by decide)); have b7 := B7.cell; have f7 := B7.frozen)
              obtain ⟨f1, f2⟩ := HF7.out A7 c7 w7 ho7 hg7
              go_ret2
              exact ⟨by rw [hwb]; exact f1, .inl ⟨3, by decide, rfl⟩⟩
            · have h64I : ¬ (64 : Int) < (Q : Int) + 1 := by omega
              have h64J : ¬ (64 : Int) < ((Q + 1 : Nat) : Int) := by omega
              go_wp2_with (at_builtin; refine wpList_app _ rfl (.tmp 81) (.tmp 84) 36 rfl base 35 _ 8 40 Try.underlying36 info35L rfl (by decide) A8 Q c8 _ rfl hOa _ _ 1 1 (cm 26 1 0 0 0 0 0).cs rfl rfl HRa.out (cs_one _) hm1 hm2 hbz ?_; intro A7 c7 w7 ho7 hg7 hbk7; have B7 := HC.out.1.grown hg7 (own_blk_ne hOa HC.out.1 (by decide)); have b7 := B7.cell; have f7 := B7.frozen)
              obtain ⟨f1, f2⟩ := HF7.out A7 c7 w7 ho7 hg7
              go_ret2
              refine ⟨by rw [hwb]; exact f1, .inr ⟨A7, c7, cl0 ++ cl2 ++ [cm 26 1 0 0 0 0 0], by rw [HLEN.out]; rfl, ?_, HBR.out, by rw [HLEN.out]; omega⟩⟩
              rw [HLEN.out, HCS.out, hwb]
              exact f2
end Go.Proofs.Yteecgdbicokgoaa
