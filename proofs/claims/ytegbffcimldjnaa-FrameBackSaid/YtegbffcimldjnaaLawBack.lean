/- FrameBack: the walk. -/
import Derived.Test.YtegbffcimldjnaaPlain
namespace Go.Proofs.Ytegbffcimldjnaa
open Go.RowKit
set_option linter.unusedVariables false
set_option linter.unusedSimpArgs false

theorem bytes_short (g : Fr) : g.bytes.length ≤ maxLen := by
  simp only [Fr.bytes]
  split
  · rename_i h
    simp only [Fr.may, Bool.and_eq_true, decide_eq_true_eq] at h
    simp only [List.length_map, List.length_range]
    unfold maxLen
    omega
  · exact Nat.zero_le _
theorem Rd.al {w : World} {A : Option Addr} {vs : List Value} (h : Rd w w.heap.size A vs) (o : Obj) : Rd (w.alloc o) (w.alloc o).heap.size A vs := (h.alloc (Nat.le_refl _) o).more (by simp)

theorem mkE_three (id : Int) (ext : Bool) (xs : List Int) : mkE id ext xs = 0 ∨ mkE id ext xs = 1 ∨ mkE id ext xs = 3 := by
  unfold mkE
  split
  · exact .inr (.inl rfl)
  · split
    · exact .inl rfl
    · exact .inr (.inr rfl)

theorem belD {w w5 : World} (h : Below w.drew.heap.size w.drew w5) : Below w.heap.size w w5 := (Below.refl w.heap.size w).drew.trans h
theorem belAD {w w5 : World} {o : Obj} (h : Below (w.alloc o).drew.heap.size (w.alloc o).drew w5) : Below w.heap.size w w5 := bel1 (o := o) ((Below.refl (w.alloc o).heap.size (w.alloc o)).drew.trans h)
theorem blkAD {w w5 : World} {t : TypeId} {cs : Array Value} (h : Below (w.alloc (.cells cs t)).drew.heap.size (w.alloc (.cells cs t)).drew w5) : Blk w5 w.heap.size t cs := Blk.new_below ((Below.refl (w.alloc (.cells cs t)).heap.size (w.alloc (.cells cs t))).drew.trans h)
theorem belDA {w w5 : World} {o : Obj} (h : Below (w.drew.alloc o).heap.size (w.drew.alloc o) w5) : Below w.heap.size w w5 := (Below.refl w.heap.size w).drew.trans (bel1 h)
theorem blkDA {w w5 : World} {t : TypeId} {cs : Array Value} (h : Below (w.drew.alloc (.cells cs t)).heap.size (w.drew.alloc (.cells cs t)) w5) : Blk w5 w.heap.size t cs := Blk.new_below (w := w.drew) h
theorem Blk.set11 {w : World} {g : Nat} {t : TypeId} {c0 c1 c2 c3 c4 c5 c6 c7 c8 c9 c10 : Value} (h : Blk w g t #[c0, c1, c2, c3, c4, c5, c6, c7, c8, c9, c10]) (v0 v1 v2 v3 v4 v5 v6 v7 v8 v9 v10 : Value) :
    Blk (((((((((((w.setCell ⟨g, 0, none⟩ v0).setCell ⟨g, 1, none⟩ v1).setCell ⟨g, 2, none⟩ v2).setCell ⟨g, 3, none⟩ v3).setCell ⟨g, 4, none⟩ v4).setCell ⟨g, 5, none⟩ v5).setCell ⟨g, 6, none⟩ v6).setCell ⟨g, 7, none⟩ v7).setCell ⟨g, 8, none⟩ v8).setCell ⟨g, 9, none⟩ v9).setCell ⟨g, 10, none⟩ v10) g t #[v0, v1, v2, v3, v4, v5, v6, v7, v8, v9, v10] := by
  have h0 : Blk (w.setCell ⟨g, 0, none⟩ v0) g t #[v0, c1, c2, c3, c4, c5, c6, c7, c8, c9, c10] := by have := h.set_ 0 v0; simpa only [List.setIfInBounds_toArray, List.set_cons_zero, List.set_cons_succ] using this
  have h1 : Blk ((w.setCell ⟨g, 0, none⟩ v0).setCell ⟨g, 1, none⟩ v1) g t #[v0, v1, c2, c3, c4, c5, c6, c7, c8, c9, c10] := by have := h0.set_ 1 v1; simpa only [List.setIfInBounds_toArray, List.set_cons_zero, List.set_cons_succ] using this
  have h2 : Blk (((w.setCell ⟨g, 0, none⟩ v0).setCell ⟨g, 1, none⟩ v1).setCell ⟨g, 2, none⟩ v2) g t #[v0, v1, v2, c3, c4, c5, c6, c7, c8, c9, c10] := by have := h1.set_ 2 v2; simpa only [List.setIfInBounds_toArray, List.set_cons_zero, List.set_cons_succ] using this
  have h3 : Blk ((((w.setCell ⟨g, 0, none⟩ v0).setCell ⟨g, 1, none⟩ v1).setCell ⟨g, 2, none⟩ v2).setCell ⟨g, 3, none⟩ v3) g t #[v0, v1, v2, v3, c4, c5, c6, c7, c8, c9, c10] := by have := h2.set_ 3 v3; simpa only [List.setIfInBounds_toArray, List.set_cons_zero, List.set_cons_succ] using this
  have h4 : Blk (((((w.setCell ⟨g, 0, none⟩ v0).setCell ⟨g, 1, none⟩ v1).setCell ⟨g, 2, none⟩ v2).setCell ⟨g, 3, none⟩ v3).setCell ⟨g, 4, none⟩ v4) g t #[v0, v1, v2, v3, v4, c5, c6, c7, c8, c9, c10] := by have := h3.set_ 4 v4; simpa only [List.setIfInBounds_toArray, List.set_cons_zero, List.set_cons_succ] using this
  have h5 : Blk ((((((w.setCell ⟨g, 0, none⟩ v0).setCell ⟨g, 1, none⟩ v1).setCell ⟨g, 2, none⟩ v2).setCell ⟨g, 3, none⟩ v3).setCell ⟨g, 4, none⟩ v4).setCell ⟨g, 5, none⟩ v5) g t #[v0, v1, v2, v3, v4, v5, c6, c7, c8, c9, c10] := by have := h4.set_ 5 v5; simpa only [List.setIfInBounds_toArray, List.set_cons_zero, List.set_cons_succ] using this
  have h6 : Blk (((((((w.setCell ⟨g, 0, none⟩ v0).setCell ⟨g, 1, none⟩ v1).setCell ⟨g, 2, none⟩ v2).setCell ⟨g, 3, none⟩ v3).setCell ⟨g, 4, none⟩ v4).setCell ⟨g, 5, none⟩ v5).setCell ⟨g, 6, none⟩ v6) g t #[v0, v1, v2, v3, v4, v5, v6, c7, c8, c9, c10] := by have := h5.set_ 6 v6; simpa only [List.setIfInBounds_toArray, List.set_cons_zero, List.set_cons_succ] using this
  have h7 : Blk ((((((((w.setCell ⟨g, 0, none⟩ v0).setCell ⟨g, 1, none⟩ v1).setCell ⟨g, 2, none⟩ v2).setCell ⟨g, 3, none⟩ v3).setCell ⟨g, 4, none⟩ v4).setCell ⟨g, 5, none⟩ v5).setCell ⟨g, 6, none⟩ v6).setCell ⟨g, 7, none⟩ v7) g t #[v0, v1, v2, v3, v4, v5, v6, v7, c8, c9, c10] := by have := h6.set_ 7 v7; simpa only [List.setIfInBounds_toArray, List.set_cons_zero, List.set_cons_succ] using this
  have h8 : Blk (((((((((w.setCell ⟨g, 0, none⟩ v0).setCell ⟨g, 1, none⟩ v1).setCell ⟨g, 2, none⟩ v2).setCell ⟨g, 3, none⟩ v3).setCell ⟨g, 4, none⟩ v4).setCell ⟨g, 5, none⟩ v5).setCell ⟨g, 6, none⟩ v6).setCell ⟨g, 7, none⟩ v7).setCell ⟨g, 8, none⟩ v8) g t #[v0, v1, v2, v3, v4, v5, v6, v7, v8, c9, c10] := by have := h7.set_ 8 v8; simpa only [List.setIfInBounds_toArray, List.set_cons_zero, List.set_cons_succ] using this
  have h9 : Blk ((((((((((w.setCell ⟨g, 0, none⟩ v0).setCell ⟨g, 1, none⟩ v1).setCell ⟨g, 2, none⟩ v2).setCell ⟨g, 3, none⟩ v3).setCell ⟨g, 4, none⟩ v4).setCell ⟨g, 5, none⟩ v5).setCell ⟨g, 6, none⟩ v6).setCell ⟨g, 7, none⟩ v7).setCell ⟨g, 8, none⟩ v8).setCell ⟨g, 9, none⟩ v9) g t #[v0, v1, v2, v3, v4, v5, v6, v7, v8, v9, c10] := by have := h8.set_ 9 v9; simpa only [List.setIfInBounds_toArray, List.set_cons_zero, List.set_cons_succ] using this
  have h10 : Blk (((((((((((w.setCell ⟨g, 0, none⟩ v0).setCell ⟨g, 1, none⟩ v1).setCell ⟨g, 2, none⟩ v2).setCell ⟨g, 3, none⟩ v3).setCell ⟨g, 4, none⟩ v4).setCell ⟨g, 5, none⟩ v5).setCell ⟨g, 6, none⟩ v6).setCell ⟨g, 7, none⟩ v7).setCell ⟨g, 8, none⟩ v8).setCell ⟨g, 9, none⟩ v9).setCell ⟨g, 10, none⟩ v10) g t #[v0, v1, v2, v3, v4, v5, v6, v7, v8, v9, v10] := by have := h9.set_ 10 v10; simpa only [List.setIfInBounds_toArray, List.set_cons_zero, List.set_cons_succ] using this
  exact h10
set_option maxHeartbeats 8000000 in
theorem back_any (id : Int) (ext : Bool) (A : Option Addr) (n c : Nat) (xs : List Int) (g : Fr) (w : World) (h0 : 0 ≤ id) (h1 : id < 4294967296) (hx : xs.length = n) (hb : Rd w w.heap.size A (u8s xs)) (hn : n ≤ c) (hl : n ≤ maxLen) (hA : A = none → n = 0 ∧ c = 0) (hu : ∀ x ∈ xs, 0 ≤ x ∧ x < 256) (hg : g.wf) :
    Calls Try.prog 6 #[.int .u32 id, .bool ext, .slice A n c, g.val] w fun e w' => e = .returned (.bool true) ∧ Below w.heap.size w w' := by
  have hf := few_bytes A n c (xs.take 20)
  have hy : (xs.take 20).length = min n 20 := by simp [hx, Nat.min_comm]
  have hb' : Rd w w.heap.size A (u8s (xs.take 20)) := by
    have := hb.take 20
    rwa [← List.map_take] at this
  have hl' : (xs.take 20).length ≤ maxLen := by rw [hy]; unfold maxLen; omega
  have hu' : ∀ x ∈ xs.take 20, 0 ≤ x ∧ x < 256 := fun x hx => hu x (List.mem_of_mem_take hx)
  have HF := fun w => Lib.hid (hf w hn hl hA hy)
  clear hx hf hy hb hu
  generalize xs.take 20 = ys at *
  -- the frame made of the bytes
  obtain ⟨F, hF⟩ : ∃ F, mkF id ext ys = F := ⟨_, rfl⟩
  obtain ⟨e0, he0⟩ : ∃ e0, mkE id ext ys = e0 := ⟨_, rfl⟩
  have CM : Hid (∀ W, Rd W W.heap.size A (u8s ys) → Calls Try.prog 10 #[.int .u32 id, .bool ext, .slice A ys.length c] W fun e w' => e = .returned (.tuple #[F.val, .int .i64 e0]) ∧ Below W.heap.size W w') := fun W hW => by
    have := make_any id ext A ys c W h0 h1 hW hl'
    rwa [hF, he0] at this
  have hFw : F.wf := hF ▸ mkF_wf id ext ys h0 h1 hu'
  have hF2 : e0 = 0 → F.may = true ∧ F.bytes = ys ∧ F.id = id ∧ F.ext = ext := fun h => by
    have := mkF_may id ext ys (he0.trans h)
    rwa [hF] at this
  have C16 : Hid (e0 = 0 → ∀ W, Calls Try.prog 16 #[F.val] W fun e w' => e = .returned (.bool true) ∧ Below W.heap.size W w') := fun h W => by
    have := may_any F W hFw
    rwa [(hF2 h).1] at this
  have C17 : Hid (e0 = 0 → ∀ W, Calls Try.prog 17 #[F.val] W fun e w' => ∃ A c, e = .returned (.slice A ys.length c) ∧ (∀ w2, Below w'.heap.size w' w2 → (convert 23 9 (.slice A ys.length c)).run Try.prog w2 = .ok (.string (bstr ys)) w2) ∧ Below W.heap.size W w') := fun h W => by
    have := bytes_any F W hFw
    rw [(hF2 h).2.1] at this
    refine this.mono ?_
    rintro e w' ⟨A, c, rfl, ho, hb⟩
    exact ⟨A, c, rfl, ho.conv Try.underlying23 Try.underlying5 Try.underlying9 rfl, hb⟩
  -- the frame made of the given frame's bytes
  obtain ⟨G, hG⟩ : ∃ G, mkF g.id g.ext g.bytes = G := ⟨_, rfl⟩
  obtain ⟨e1, he1⟩ : ∃ e1, mkE g.id g.ext g.bytes = e1 := ⟨_, rfl⟩
  obtain ⟨E, hE⟩ : ∃ E, (e1 == 0) = E := ⟨_, rfl⟩
  obtain ⟨M, hM⟩ : ∃ M, Fr.eqb G g = M := ⟨_, rfl⟩
  have hm : g.may = (E && M) := by
    rw [← back_law g hg, hG, he1, hM, ← hE]; rfl
  have h26 : ∀ W, (Op.equalIn 10000 26 G.val g.val).run Try.prog W = .ok M W := fun W => by rw [eq26_any, hM]
  have gl := bytes_short g
  have D17 : Hid (∀ W, Calls Try.prog 17 #[g.val] W fun e w' => ∃ A c, e = .returned (.slice A g.bytes.length c) ∧ Rd w' w'.heap.size A (u8s g.bytes) ∧ Below W.heap.size W w') := fun W => by
    refine (bytes_any g W hg).mono ?_
    rintro e w' ⟨A, c, rfl, ho, hb⟩
    exact ⟨A, c, rfl, ho.rd, hb⟩
  have D10 : Hid (∀ W A c, Rd W W.heap.size A (u8s g.bytes) → Calls Try.prog 10 #[.int .u32 g.id, .bool g.ext, .slice A g.bytes.length c] W fun e w' => e = .returned (.tuple #[G.val, .int .i64 e1]) ∧ Below W.heap.size W w') := fun W A c hW => by
    have := make_any g.id g.ext A g.bytes c W hg.1 hg.2.1 hW gl
    rwa [hG, he1] at this
  have D16 : Hid (∀ W, Calls Try.prog 16 #[g.val] W fun e w' => e = .returned (.bool (E && M)) ∧ Below W.heap.size W w') := fun W => by
    have := may_any g W hg
    rwa [hm] at this
  have t0 := mkE_three id ext ys
  have t1 := mkE_three g.id g.ext g.bytes
  rw [he0] at t0
  rw [he1] at t1
  have T0 := Lib.hid t0
  have T1 := Lib.hid t1
  have F2 := Lib.hid hF2
  have HE := Lib.hid hE
  clear t0 t1 hF he0 hFw hF2 hG he1 hM hm gl hE
  generalize g.bytes = gb at D17 D10
  go_enter Try.func6, Try.ntmps6
  go_wp2_with fail
  refine (shown_any _).mono ?_
  rintro e w1 ⟨rfl, hb1⟩
  have B1 := Blk.new_below hb1
  have hb1' := bel1 hb1
  clear hb1
  go_wp2_with fail
  refine (HF _).out.mono ?_
  rintro e w' ⟨rfl, rfl⟩
  go_wp2_with fail
  have r1 := (hb'.below hb1').more hb1'.size
  refine (CM.out _ r1).mono ?_
  rintro e w2 ⟨rfl, hb2⟩
  have B2 := B1.below hb2
  have r2 := (r1.below hb2).more hb2.size
  go_wp2_with fail
  refine wp_named fun W hW => ?_
  obtain ⟨B3, hbW⟩ := blk1 hW
  have B2W := B2.below hbW
  have r3 : Rd W W.heap.size A (u8s ys) := (r2.below hbW).more hbW.size
  have hW0 : Below w.heap.size w W := bel2 (bel2 hb1' hb2) hbW
  clear hW B1 B2 r1 r2 hbW hb1' hb2
  have q1 := B2W.rule
  have q2 := B3.rule
  have q3 := r3.conv Try.underlying23 Try.underlying5 Try.underlying9 (c := c) (Nat.le_refl _) rfl
  go_cut [50] (fun v wx => v = .bool false ∧ Below W.heap.size W wx)
  case first =>
    have t0 := T0.out
    rcases t0 with rfl | rfl | rfl
    · obtain ⟨-, -, f3, f4⟩ := F2.out rfl
      obtain ⟨fi, fx, fl, fb⟩ := F
      dsimp only at f3 f4
      subst f3 f4
      have E16 := Lib.hid (C16.out rfl)
      have E17 := Lib.hid (C17.out rfl)
      clear C16 C17 T0 F2
      go_region_held (fun w' => Below W.heap.size W w') (first | exact (Below.refl _ _).drew | exact bel2 (by assumption) (by assumption))
        (first
          | (go_at_call 16; (with_reducible refine (E16.out _).mono ?_); rintro e w5 ⟨rfl, hb5⟩)
          | (go_at_call 11; (with_reducible refine (HF _).out.mono ?_); rintro e w7 ⟨rfl, rfl⟩)
          | (go_at_call 17; (with_reducible refine (E17.out _).mono ?_); rintro e w6 ⟨A6, c6, rfl, r6, hb6⟩; have z6 := Below.refl w6.heap.size w6))
      all_goals
        go_wp2_with fail
        go_meet
        case rel => exact ⟨rfl, by assumption⟩
    · go_quiet (fail)
      all_goals
        go_wp2_with fail
        go_meet
        case rel => exact ⟨rfl, ⟨rfl, rfl, rfl, Nat.le_refl _, fun _ _ => rfl⟩⟩
    · go_quiet (fail)
      all_goals
        go_wp2_with fail
        go_meet
        case rel => exact ⟨rfl, ⟨rfl, rfl, rfl, Nat.le_refl _, fun _ _ => rfl⟩⟩
  case rest =>
    obtain ⟨rfl, hfin⟩ := hcut
    have hw5 := bel2 hW0 hfin
    have B5 := B2W.below hfin
    clear q1 q2 q3 B2W B3 r3
    have q5 := B5.cell
    have q6 := B5.rule
    have lt5 := B5.lt
    have ne5 : ¬ w.heap.size = wc.heap.size := Nat.ne_of_lt lt5
    have ne6 : ¬ wc.heap.size = w.heap.size := fun h => ne5 h.symm
    have q7 := fun o => (B5.alloc o).cell
    go_wp2_with fail
    go_cut [12, 13] (fun p v wx => ∃ g', p = .pointer (some ⟨g', 0, none⟩) ∧ v = .int .i64 e1 ∧ Blk wx g' 26 #[.int .u32 G.id, .bool G.ext, .int .i64 G.len, .int .u8 (G.g 0), .int .u8 (G.g 1), .int .u8 (G.g 2), .int .u8 (G.g 3), .int .u8 (G.g 4), .int .u8 (G.g 5), .int .u8 (G.g 6), .int .u8 (G.g 7)] ∧ Below wc.heap.size wc wx)
    case first =>
      go_region_held (fun w' => Below wc.heap.size wc w') (first | (with_reducible exact (Below.refl _ _).drew) | (with_reducible assumption) | (with_reducible exact bel2 (by assumption) (by assumption)) | go_grown)
        (first
          | (go_at_call 17; (with_reducible refine (D17.out _).mono ?_); rintro e w5 ⟨A5, c5, rfl, r5, hb5⟩; (first | (with_reducible have L5 := belAD hb5; with_reducible have N5 := blkAD hb5) | (with_reducible have L5 := belDA hb5; with_reducible have N5 := blkDA hb5) | (with_reducible have L5 := belD hb5)); have s5 := L5.size)
          | (go_at_call 10; (with_reducible refine (D10.out _ _ _ (by first | exact r5 | exact r5.al _)).mono ?_); rintro e w6 ⟨rfl, hb6⟩; (first | (with_reducible have N6 := Blk.new_below hb6; with_reducible have L6 := bel2 L5 (bel1 hb6)) | (with_reducible have L6 := bel2 L5 hb6; (first | (with_reducible have N6 := N5.below hb6) | skip))); (first | (have n6 := N6.cell; have m6 := N6.frozen) | skip); have s6 := L6.size))
      all_goals
        go_wp2_with fail
        go_meet
        case rel =>
          refine ⟨_, rfl, rfl, ?_, ?_⟩
          · first | (with_reducible exact Blk.new _ _ _) | (with_reducible exact N6.set11 _ _ _ _ _ _ _ _ _ _ _)
          · first | (with_reducible assumption) | go_grown
    case rest =>
      obtain ⟨g', rfl, rfl, B7, hbx⟩ := hcut
      have B8 := B5.below hbx
      have hw6 := bel2 hw5 hbx
      have p1 := B7.rule
      have p2 := B8.rule
      have p5 := B7.cell
      have p6 := B8.cell
      clear q5 q6 q7
      have t1 := T1.out
      have hE := HE.out
      have d := D16.out
      rcases t1 with rfl | rfl | rfl
      · obtain rfl : E = true := hE.symm
        simp only [Bool.true_and] at d
        have D := Lib.hid d
        clear d D16 T1 HE hE T0 F2 C16 C17
        go_wp2_with fail
        refine (D.out _).mono ?_
        rintro e w8 ⟨rfl, hb8⟩
        have p3 := (B7.below hb8).cell
        have p4 := (B8.below hb8).cell
        go_wp2_with fail
        go_ret
        exact ⟨rfl, bel2 hw6 hb8⟩
      · obtain rfl : E = false := hE.symm
        simp only [Bool.false_and] at d
        have D := Lib.hid d
        clear d D16 T1 HE hE T0 F2 C16 C17
        go_wp2_with fail
        refine (D.out _).mono ?_
        rintro e w8 ⟨rfl, hb8⟩
        have p3 := (B7.below hb8).cell
        have p4 := (B8.below hb8).cell
        go_wp2_with fail
        go_ret
        exact ⟨rfl, bel2 hw6 hb8⟩
      · obtain rfl : E = false := hE.symm
        simp only [Bool.false_and] at d
        have D := Lib.hid d
        clear d D16 T1 HE hE T0 F2 C16 C17
        go_wp2_with fail
        refine (D.out _).mono ?_
        rintro e w8 ⟨rfl, hb8⟩
        have p3 := (B7.below hb8).cell
        have p4 := (B8.below hb8).cell
        go_wp2_with fail
        go_ret
        exact ⟨rfl, bel2 hw6 hb8⟩
end Go.Proofs.Ytegbffcimldjnaa
