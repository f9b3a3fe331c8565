import Derived.Test.YtegbffcimldjnaaPlain
namespace Go.Proofs.Ytegbffcimldjnaa
open Go.RowKit
set_option linter.unusedVariables false
set_option linter.unusedSimpArgs false

theorem eq26_selfP (f : Fr) (w : World) : (Op.equalIn 10000 26 f.val f.val).run Try.prog w = .ok true w := by
  rw [eq26_any]; simp [Fr.eqb]
theorem take_map_range {α} (g h : Nat → α) (n m : Nat) (hn : n ≤ m) (e : ∀ i, i < n → g i = h i) : ((List.range m).map g).take n = (List.range n).map h := by
  apply List.ext_getElem
  · simp; omega
  · intro i h1 h2
    simp at h1 h2
    simp [e i h2]
theorem pad_g (f : Fr) (c : Int) (hm : f.may = true) : ∃ n : Nat, n ≤ 8 ∧ f.len = n ∧ ∃ ps : List Int, f.pad c = ⟨f.id, f.ext, 8, ps⟩ ∧ ps.length = 8 ∧ (∀ k, n ≤ k → k < 8 → ps[k]? = some c) ∧ f.bytes = ps.take n ∧ f.bytes.length = n ∧
    (f.pad c).may = true ∧ (f.pad c).bytes = ps ∧ (∀ o, ((f.pad c).pad o).val = (f.pad c).val) ∧ (f.pad c).rank = f.rank := by
  have h := hm
  simp only [Fr.may, Bool.and_eq_true, decide_eq_true_eq] at h
  obtain ⟨⟨⟨hk, h0⟩, h8⟩, hz⟩ := h
  have hp : f.pad c = ⟨f.id, f.ext, 8, (List.range 8).map fun (i : Nat) => if decide (((i : Nat) : Int) < f.len) then f.g i else c⟩ := by simp [Fr.pad, hm]
  have hl8 : ((List.range 8).map fun (i : Nat) => if decide (((i : Nat) : Int) < f.len) then f.g i else c).length = 8 := by simp
  have hm2 : (f.pad c).may = true := by
    rw [hp]
    simp only [Fr.may, hk, Fr.zeros, Bool.true_and, Bool.and_eq_true, decide_eq_true_eq, List.all_eq_true, List.mem_range]
    exact ⟨⟨by omega, by omega⟩, fun i hi => by simp; left; omega⟩
  refine ⟨f.len.toNat, by omega, by omega, _, hp, hl8, ?_, ?_, ?_, hm2, ?_, ?_, ?_⟩
  · intro k h1 h2
    rw [List.getElem?_eq_getElem (by simp; omega)]
    simp
    intro h3; omega
  · rw [take_map_range _ f.g _ _ (by omega) (fun i hi => by simp; intro h3; omega)]
    simp [Fr.bytes, hm]
  · simp [Fr.bytes, hm]
  · rw [Fr.bytes, if_pos hm2, hp]
    apply List.ext_getElem
    · simp
    · intro i h1 h2
      simp at h1 h2
      have : i < 8 := by omega
      simp [Fr.g, this]
  · intro o
    have h3 : (f.pad c).pad o = ⟨f.id, f.ext, 8, (List.range 8).map fun (i : Nat) => if decide (((i : Nat) : Int) < 8) then (f.pad c).g i else o⟩ := by
      rw [Fr.pad, if_pos hm2, hp]
    rw [h3]
    rw [hp]
    simp [Fr.val, Fr.g]
  · rw [Fr.rank, if_pos hm2, Fr.rank, if_pos hm, hp]
theorem pad_wf (f : Fr) (c : Int) (hf : f.wf) (h0 : 0 ≤ c) (h1 : c < 256) : (f.pad c).wf := by
  unfold Fr.pad
  split
  · refine ⟨hf.1, hf.2.1, by dsimp only; omega, by dsimp only; omega, fun i => ?_⟩
    simp only [Fr.g]
    rcases Nat.lt_or_ge i 8 with h | h
    · rw [List.getD_eq_getElem?_getD, List.getElem?_eq_getElem (by simpa using h)]
      simp
      split
      · exact hf.2.2.2.2 i
      · exact ⟨h0, h1⟩
    · rw [List.getD_eq_getElem?_getD, List.getElem?_eq_none (by simpa using h)]
      simp
  · exact hf

set_option maxHeartbeats 4000000 in
theorem pads_no (f : Fr) (c o : Int) (w : World) (hf : f.wf) (hm : f.may = false) :
    Calls Try.prog 9 #[f.val, .int .u8 c, .int .u8 o] w fun e w' => e = .returned (.bool true) ∧ Below w.heap.size w w' := by
  have hp : f.pad c = f := by simp [Fr.pad, hm]
  have C20 : Hid (∀ W, Calls Try.prog 20 #[f.val, .int .u8 c] W fun e w' => e = .returned f.val ∧ Below W.heap.size W w') := fun W => by
    have := pad_any f c W hf
    rwa [hp] at this
  have C16 : Hid (∀ W, Calls Try.prog 16 #[f.val] W fun e w' => e = .returned (.bool false) ∧ Below W.heap.size W w') := fun W => by
    have := may_any f W hf
    rwa [hm] at this
  have hE := fun W => eq26_selfP f W
  go_enter Try.func9, Try.ntmps9
  go_wp2_with fail
  refine (shown_any _).mono ?_
  rintro e w1 ⟨rfl, hb1⟩
  have B1 := Blk.new_below hb1
  have hr1 := B1.cell
  have hw1 : Below w.heap.size w w1 := bel1 hb1
  go_wp2_with fail
  refine (C20.out _).mono ?_
  rintro e w2 ⟨rfl, hb2⟩
  have B2 := B1.below hb2
  have hr2 := B2.cell
  have hr3 := fun o => (B2.alloc o).cell
  go_wp2_with fail
  refine (C16.out _).mono ?_
  rintro e w3 ⟨rfl, hb3⟩
  have B3 := (B2.alloc _).below hb3
  have B4 := Blk.new_below hb3
  have hr4 := B3.cell
  have hr5 := B4.cell
  go_wp2_with fail
  go_ret
  exact ⟨rfl, bel2 (bel2 hw1 hb2) (bel1 hb3)⟩

set_option maxHeartbeats 4000000 in
theorem pads_yes (f : Fr) (c o : Int) (w : World) (hf : f.wf) (hm : f.may = true) (h0 : 0 ≤ c) (h1 : c < 256) :
    Calls Try.prog 9 #[f.val, .int .u8 c, .int .u8 o] w fun e w' => e = .returned (.bool true) ∧ Below w.heap.size w w' := by
  obtain ⟨n, hn, hlen, ps, hp, hps, hcs, hby, hbl, hm2, hb2, ho2, hr2⟩ := pad_g f c hm
  have hfw := pad_wf f c hf h0 h1
  rw [hp] at hm2 hb2 ho2 hr2 hfw
  have C20 : Hid (∀ W, Calls Try.prog 20 #[f.val, .int .u8 c] W fun e w' => e = .returned (Fr.val ⟨f.id, f.ext, 8, ps⟩) ∧ Below W.heap.size W w') := fun W => by
    have := pad_any f c W hf
    rwa [hp] at this
  have D20 : Hid (∀ W, Calls Try.prog 20 #[Fr.val ⟨f.id, f.ext, 8, ps⟩, .int .u8 o] W fun e w' => e = .returned (Fr.val ⟨f.id, f.ext, 8, ps⟩) ∧ Below W.heap.size W w') := fun W => by
    have := pad_any _ o W hfw
    rwa [ho2] at this
  have C16 : Hid (∀ W, Calls Try.prog 16 #[f.val] W fun e w' => e = .returned (.bool true) ∧ Below W.heap.size W w') := fun W => by
    have := may_any f W hf
    rwa [hm] at this
  have D16 : Hid (∀ W, Calls Try.prog 16 #[Fr.val ⟨f.id, f.ext, 8, ps⟩] W fun e w' => e = .returned (.bool true) ∧ Below W.heap.size W w') := fun W => by
    have := may_any _ W hfw
    rwa [hm2] at this
  obtain ⟨R, hR⟩ : ∃ R, f.rank = R := ⟨_, rfl⟩
  rw [hR] at hr2
  have C14 : Hid (∀ W, Calls Try.prog 14 #[f.val] W fun e w' => e = .returned (.int .u32 R) ∧ Below W.heap.size W w') := fun W => by
    have := rank_any f W hf
    rwa [hR] at this
  have D14 : Hid (∀ W, Calls Try.prog 14 #[Fr.val ⟨f.id, f.ext, 8, ps⟩] W fun e w' => e = .returned (.int .u32 R) ∧ Below W.heap.size W w') := fun W => by
    have := rank_any _ W hfw
    rwa [hr2] at this
  have C17 : Hid (∀ W, Calls Try.prog 17 #[f.val] W fun e w' => ∃ A c, e = .returned (.slice A n c) ∧ (∀ w2, Below w'.heap.size w' w2 → (convert 23 9 (.slice A n c)).run Try.prog w2 = .ok (.string (bstr (ps.take n))) w2) ∧ Below W.heap.size W w') := fun W => by
    have := bytes_any f W hf
    rw [hby] at this hbl
    refine this.mono ?_
    rintro e w' ⟨A, c, rfl, ho, hb⟩
    rw [hbl]
    exact ⟨A, c, rfl, ho.rd.conv Try.underlying23 Try.underlying5 Try.underlying9 (Nat.le_refl _) hbl.symm, hb⟩
  have D17 : Hid (∀ W, Calls Try.prog 17 #[Fr.val ⟨f.id, f.ext, 8, ps⟩] W fun e w' => ∃ g off c4, e = .returned (.slice (some ⟨g, off, none⟩) 8 c4) ∧ 8 ≤ c4 ∧ c4 ≤ maxLen ∧ (∀ w2, Below w'.heap.size w' w2 → (convert 23 9 (.slice (some ⟨g, off, none⟩) n c4)).run Try.prog w2 = .ok (.string (bstr (ps.take n))) w2) ∧
      (∀ w2, Below w'.heap.size w' w2 → ∀ k : Nat, n ≤ k → k < 8 → w2.cell? ⟨g, off + k, none⟩ = some (.int .u8 c)) ∧ Below W.heap.size W w') := fun W => by
    have := bytes_any _ W hfw
    rw [hb2] at this
    refine this.mono ?_
    rintro e w' ⟨A, c4, rfl, ho, hb⟩
    have e8 : ps.length = 8 := hps
    have hr : Rd w' w'.heap.size A (u8s (ps.take n)) := by
      have := ho.rd.take n
      rwa [← List.map_take] at this
    have hr2 := hr.conv Try.underlying23 Try.underlying5 Try.underlying9 (Nat.le_refl _) (show n = (ps.take n).length by rw [← hby, hbl]) (c := c4)
    rw [hps] at ho ⊢
    cases A with
    | none => have := ho.2.2.2.1 rfl; have := ho.2.1; omega
    | some a =>
      obtain ⟨g, off, cur, rfl, _⟩ := ho.2.2.2.2 a rfl
      refine ⟨g, off, c4, rfl, ho.2.1, ho.2.2.1, hr2, fun w2 hb k h1 h2 => (ho.below hb).cells k _ ?_, hb⟩
      simp [hcs k h1 h2]
  have hE := fun W => eq26_selfP ⟨f.id, f.ext, 8, ps⟩ W
  obtain ⟨id, ext, len, bs⟩ := f
  dsimp only at hlen hE
  subst hlen
  clear hp hps hcs hby hbl hm2 hb2 ho2 hr2 hfw hR hf hm
  go_enter Try.func9, Try.ntmps9
  go_wp2_with fail
  refine (shown_any _).mono ?_
  rintro e w1 ⟨rfl, hb1⟩
  have B1 := Blk.new_below hb1
  have hr1 := B1.cell
  have hw1 : Below w.heap.size w w1 := bel1 hb1
  go_wp2_with fail
  refine (C20.out _).mono ?_
  rintro e w2 ⟨rfl, hb2⟩
  have B2 := B1.below hb2
  have hr2 := B2.cell
  have hr3 := fun o => (B2.alloc o).cell
  go_wp2_with fail
  have hw2 : Below w.heap.size w w2 := bel2 hw1 hb2
  refine (C16.out _).mono ?_
  rintro e w3 ⟨rfl, hb3⟩
  have B5 := Blk.new_below hb3
  have B6 := (B2.alloc _).below hb3
  have hr5 := B5.cell
  have hr6 := B6.cell
  go_wp2_with fail
  refine (D17.out _).mono ?_
  rintro e w4 ⟨g4, off4, c4, rfl, h8, hmx, r4, k4, hb4⟩
  have B7 := (B5.below hb4).rule
  have B8 := (B6.below hb4).rule
  have hw4 : Below w.heap.size w w4 := bel2 (bel2 hw2 (bel1 hb3)) hb4
  clear B1 B2 B5 B6 hr1 hr2 hr3 hr5 hr6 hw1 hw2
  go_wp2_with fail
  go_cut [40] (fun v wx => v = .bool false ∧ Below w4.heap.size w4 wx)
  case first =>
    go_region_held (fun w' => Below w4.heap.size w4 w') (first | exact (Below.refl _ _).drew | exact bel2 (by assumption) (by assumption))
      (first | (go_at_call 17; (with_reducible refine (C17.out _).mono ?_); rintro e w5 ⟨A5, c5, rfl, r5, hb5⟩; have z5 := Below.refl w5.heap.size w5))
    all_goals
      have hfin : Below w4.heap.size w4 w5 := by assumption
      go_wp2_with fail
      go_meet
      case rel => exact ⟨rfl, hfin⟩
  case rest =>
    obtain ⟨rfl, hfin⟩ := hcut
    have K4 := Lib.hid k4
    clear r4 k4
    have hw5 := bel2 hw4 hfin
    have B7' := fun w' hb => B7 w' (bel2 hfin hb)
    have B8' := fun w' hb => B8 w' (bel2 hfin hb)
    clear B7 B8
    have B8'' := B8' _ (Below.refl _ _)
    by_cases hcn : c4 = n
    · obtain rfl : n = 8 := by omega
      subst hcn
      have e14 := C14.out
      simp only [show ((8 : Nat) : Int) = 8 from rfl] at e14
      have C14 := Lib.hid e14
      clear e14
      go_wp2_with fail
      go_loop [46] (fun i => i = .int .i64 0) (fun i => 0)
      case atStart => rfl
      case round =>
        subst hrel
        go_wp2
        go_region_held (fun w' => Below wc.heap.size wc w') (first | exact (Below.refl _ _).drew | exact bel2 (by assumption) (by assumption))
          (first
            | (go_at_call 16; (with_reducible refine (D16.out _).mono ?_); rintro e w6 ⟨rfl, hb6⟩)
            | (go_at_call 20; (with_reducible refine (D20.out _).mono ?_); rintro e w7 ⟨rfl, hb7⟩)
            | (go_at_call 14; (with_reducible refine (D14.out _).mono ?_); rintro e w8 ⟨rfl, hb8⟩)
            | (go_at_call 14; (with_reducible refine (C14.out _).mono ?_); rintro e w9 ⟨rfl, hb9⟩))
        all_goals
          go_wp2
          go_ret
          exact ⟨rfl, bel2 hw5 (by assumption)⟩
    · go_wp2_with fail
      go_loop [46] (fun i => ∃ k : Nat, k ≤ 8 - n ∧ i = .int .i64 k) (fun i => 8 - (intOf i).toNat)
      case atStart => exact ⟨0, by omega, rfl⟩
      case round =>
        obtain ⟨k, hk1, rfl⟩ := hrel
        by_cases hlt : k < 8 - n
        · have hlt' : (k : Int) < ((8 - n : Nat) : Int) := by omega
          have hg := K4.out _ hfin (n + k) (by omega) (by omega)
          rw [← Nat.add_assoc] at hg
          go_wp2
          go_round
          case rel => exact ⟨k + 1, by omega, by go_num⟩
          case measure => simp [intOf]; omega
        · obtain rfl : k = 8 - n := by omega
          go_wp2
          go_region_held (fun w' => Below wc.heap.size wc w') (first | exact (Below.refl _ _).drew | exact bel2 (by assumption) (by assumption))
            (first
              | (go_at_call 16; (with_reducible refine (D16.out _).mono ?_); rintro e w6 ⟨rfl, hb6⟩)
              | (go_at_call 20; (with_reducible refine (D20.out _).mono ?_); rintro e w7 ⟨rfl, hb7⟩)
              | (go_at_call 14; (with_reducible refine (D14.out _).mono ?_); rintro e w8 ⟨rfl, hb8⟩)
              | (go_at_call 14; (with_reducible refine (C14.out _).mono ?_); rintro e w9 ⟨rfl, hb9⟩))
          all_goals
            go_wp2
            go_ret
            exact ⟨rfl, bel2 hw5 (by assumption)⟩
end Go.Proofs.Ytegbffcimldjnaa
