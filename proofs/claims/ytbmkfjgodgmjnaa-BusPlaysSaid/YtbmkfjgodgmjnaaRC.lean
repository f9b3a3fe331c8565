/- The reference's box: next, Next, Done. -/
import Derived.Test.YtbmkfjgodgmjnaaRB
namespace Go.Proofs.Ytbmkfjgodgmjnaa
open Go.RowKit
set_option linter.unusedVariables false
set_option linter.unusedSimpArgs false
theorem results_blk2 {P : Program} {fn : Func} {p u : Tmp} {ty : TypeId} (h : fn.results = #[.cell p ty, .tmp u]) (tmps : Array Value) (w : World) (g : Nat) (t : TypeId) (cs : Array Value) (d : TypeDesc)
    (hp : tmps.getD p undef = .pointer (some ⟨g, 0, none⟩)) (hg : Blk w g t cs) (hu : P.underlying ty = some d) (hd : (match d with | .struct _ | .array _ _ => true | _ => false) = true) (hi : (P.info? ty).map (·.size) = some cs.size) :
    (results fn tmps).run P w = .ok (.tuple #[.agg cs, tmps.getD u undef]) w := by
  have hp' : tmps[p]?.getD undef = .pointer (some ⟨g, 0, none⟩) := by simpa using hp
  rw [results_cell_tmp h]
  simp [hp', asAddr, run_loadVar_row w g t ty cs (0, 0) d hg hu hd hi]
/-- Which is the best of those that wait. -/
def BestP (l : List Fr) (w : World) (e : Ending) (w' : World) : Prop := ∃ v, e = .returned v ∧ BestI l l.length v ∧ Below w.heap.size w w'
set_option maxHeartbeats 1000000 in
theorem rbest_any {Φ : Who} {B r : Nat} {w : World} {a : Bx} (h : RB Φ B w r a) : Calls Try.prog 52 #[.pointer (some ⟨r, 0, none⟩)] w (BestP a.tx w) := by
  have hfw := h.2.1.tw
  have hl3 := h.2.1.t3
  obtain ⟨-, -, -, A0, c0, A1, c1, A2, c2, h4, -, ⟨h5, -⟩, -⟩ := h
  obtain ⟨n, hn⟩ : ∃ n, a.tx.length = n := ⟨_, rfl⟩
  obtain ⟨l, hla⟩ : ∃ l, a.tx = l := ⟨_, rfl⟩
  rw [hn] at hl3 h4 h5
  rw [hla] at h5 hfw hn ⊢
  clear hla
  have hl3' : (n : Int) ≤ 3 := by omega
  have HN := Lib.hid hn
  have HP : Hid (∀ v w', BestI l n v → Below w.heap.size w w' → BestP l w (.returned v) w') := Lib.hid fun v w' h1 h2 => ⟨v, rfl, by rw [hn]; exact h1, h2⟩
  clear hn
  have rfc := h4.rule
  have H5 := Lib.hid h5
  clear h4 h5
  go_enter Try.func52, Try.ntmps52
  go_wp2_with fail
  go_loopw [3, 4] (fun bv iv wr => ∃ k : Nat, k ≤ n ∧ iv = .int .i64 k ∧ BestI l k bv ∧ Below w.heap.size w wr) (fun _ iv _ => n - (intOf iv).toNat)
  case atStart => exact ⟨0, Nat.zero_le _, rfl, .inl ⟨rfl, rfl⟩, Below.refl _ _⟩
  case round =>
    obtain ⟨k, hk, rfl, hbest, hbr⟩ := hrel
    have hzr := hbr.size
    have rfr := fun i => rfc wr hbr i
    by_cases hlt : k < n
    · have hlt' : (k : Int) < n := by omega
      obtain ⟨y, hy⟩ : ∃ t, l[k]? = some t := ⟨_, List.getElem?_eq_getElem (by rw [HN.out]; exact hlt)⟩
      have hyd : l.getD k Fr.none_ = y := by rw [List.getD_eq_getElem?_getD, hy]; rfl
      have hyw := hfw y (List.mem_of_getElem? hy)
      have HYD := Lib.hid hyd
      obtain ⟨g3, o3, hA3⟩ := H5.out.at_ (by omega)
      subst hA3
      have RF : ∀ w', Below wr.heap.size wr w' → ∀ i, w'.cell? ⟨r, i, none⟩ = _ := fun w' hb => rfc w' (hbr.trans (hb.mono hzr))
      have FJ : Hid (∀ bv W', BestI l (k + 1) bv → Below wr.heap.size wr W' → ∃ k' : Nat, k' ≤ n ∧ Value.int .i64 ((k + 1 : Nat) : Int) = .int .i64 k' ∧ BestI l k' bv ∧ Below w.heap.size w W') := Lib.hid fun bv W' h1 h2 => ⟨k + 1, by omega, rfl, h1, hbr.trans (h2.mono hzr)⟩
      have rr := row_rule (H5.out.below hbr) k y hy
      have q0 := rr 0 _ rfl
      have q1 := rr 1 _ rfl
      have q2 := rr 2 _ rfl
      have q3 := rr 3 _ rfl
      have q4 := rr 4 _ rfl
      have q5 := rr 5 _ rfl
      have q6 := rr 6 _ rfl
      have q7 := rr 7 _ rfl
      have q8 := rr 8 _ rfl
      have q9 := rr 9 _ rfl
      have q10 := rr 10 _ rfl
      simp only [Nat.add_zero] at q0
      clear rr hy hyd
      rcases hbest with ⟨rfl, rfl⟩ | ⟨b, rfl, hB⟩
      · have HB1 : Hid (BestI l 1 (.int .i64 (0 : Nat))) := Lib.hid (.inr ⟨0, rfl, Best.one (by rw [HN.out]; omega)⟩)
        clear q0 q1 q2 q3 q4 q5 q6 q7 q8 q9 q10
        go_wp2_with fail
        refine wp_region_c (fun w' => Below wr.heap.size wr w') (by kernel_rfl) (by kernel_rfl) ((Below.refl _ _).drew) ?_
        repeat (first
          | (refine wpL_skip (by rfl) ?_; try simp only [Act.put, List.setIfInBounds_toArray, List.set_cons_zero, List.set_cons_succ, Nat.reduceAdd])
          | (refine wpL_val (v := ?_) (by rfl) ?_ ?_; rotate_left; · (intro w' hS; go_simp; first | done | with_reducible rfl)
             try simp only [Act.put, List.setIfInBounds_toArray, List.set_cons_zero, List.set_cons_succ, Nat.reduceAdd]))
        refine wpL_done (fun w8 hS => ?_)
        go_wp2_with fail
        go_roundw
        case rel => exact FJ.out _ _ HB1.out hS
        case measure => simp [intOf]; omega
      · have hbl := hB.lt
        have hbI : (b : Int) < n := by omega
        have hb0 : decide ((b : Int) < 0) = false := decide_eq_false (by omega)
        obtain ⟨z, hz⟩ : ∃ t, l[b]? = some t := ⟨_, List.getElem?_eq_getElem (by rw [HN.out]; omega)⟩
        have hzd : l.getD b Fr.none_ = z := by rw [List.getD_eq_getElem?_getD, hz]; rfl
        have hzw := hfw z (List.mem_of_getElem? hz)
        have rr := row_rule (H5.out.below hbr) b z hz
        have r0 := rr 0 _ rfl
        have r1 := rr 1 _ rfl
        have r2 := rr 2 _ rfl
        have r3 := rr 3 _ rfl
        have r4 := rr 4 _ rfl
        have r5 := rr 5 _ rfl
        have r6 := rr 6 _ rfl
        have r7 := rr 7 _ rfl
        have r8 := rr 8 _ rfl
        have r9 := rr 9 _ rfl
        have r10 := rr 10 _ rfl
        simp only [Nat.add_zero] at r0
        clear rr hz
        have R1 := Lib.hid (fun w => refrank_any y w hyw)
        have R2 := Lib.hid (fun w => refrank_any z w hzw)
        have hst : Hid (¬ y.rank < z.rank → BestI l (k + 1) (.int .i64 b)) := Lib.hid fun h => .inr ⟨b, rfl, hB.stay (by rw [HN.out]; exact hlt) (by rw [HYD.out, hzd]; exact h)⟩
        have hnw : Hid (y.rank < z.rank → BestI l (k + 1) (.int .i64 k)) := Lib.hid fun h => .inr ⟨k, rfl, hB.new (by rw [HN.out]; exact hlt) (by rw [HYD.out, hzd]; exact h)⟩
        obtain ⟨r1, hr1⟩ : ∃ r1, y.rank = r1 := ⟨_, rfl⟩
        obtain ⟨r2, hr2⟩ : ∃ r2, z.rank = r2 := ⟨_, rfl⟩
        rw [hr1] at R1 hst hnw
        rw [hr2] at R2 hst hnw
        clear hr1 hr2 hzd hB
        go_wp2_with fail
        by_cases hrr : r1 < r2
        · have hd : decide (r1 < r2) = true := decide_eq_true hrr
          have HNW := Lib.hid (hnw.out hrr)
          clear hnw hst
          refine wp_region_c (fun w' => Below wr.heap.size wr w') (by kernel_rfl) (by kernel_rfl) ((Below.refl _ _).drew) ?_
          repeat (first
            | (refine wpL_skip (by rfl) ?_; try simp only [Act.put, List.setIfInBounds_toArray, List.set_cons_zero, List.set_cons_succ, Nat.reduceAdd])
            | (refine wpL_val (v := ?_) (by rfl) ?_ ?_; rotate_left; · (intro w' hS; go_simp; first | done | with_reducible rfl)
               try simp only [Act.put, List.setIfInBounds_toArray, List.set_cons_zero, List.set_cons_succ, Nat.reduceAdd])
            | (refine wpL_call (v := ?_) (f := ?_) (args := ?_) (by rfl) ?_ ?_ ?_; rotate_left 3
               · (intro w' hS; go_simp; first | done | (refine ⟨?_, ?_⟩ <;> with_reducible rfl) | with_reducible rfl)
               · (intro w' hS; first
                   | ((with_reducible refine (R1.out _).mono ?_); rintro e w2 ⟨rfl, hb⟩; refine ⟨?_, bel2 hS hb⟩; with_reducible rfl)
                   | ((with_reducible refine (R2.out _).mono ?_); rintro e w2 ⟨rfl, hb⟩; refine ⟨?_, bel2 hS hb⟩; with_reducible rfl))
               try simp only [Act.put, List.setIfInBounds_toArray, List.set_cons_zero, List.set_cons_succ, Nat.reduceAdd]))
          refine wpL_done (fun w8 hS => ?_)
          go_wp2_with fail
          go_roundw
          case rel => exact FJ.out _ _ HNW.out hS
          case measure => simp [intOf]; omega
        · have hd : decide (r1 < r2) = false := decide_eq_false hrr
          have HST := Lib.hid (hst.out (by omega))
          clear hnw hst
          refine wp_region_c (fun w' => Below wr.heap.size wr w') (by kernel_rfl) (by kernel_rfl) ((Below.refl _ _).drew) ?_
          repeat (first
            | (refine wpL_skip (by rfl) ?_; try simp only [Act.put, List.setIfInBounds_toArray, List.set_cons_zero, List.set_cons_succ, Nat.reduceAdd])
            | (refine wpL_val (v := ?_) (by rfl) ?_ ?_; rotate_left; · (intro w' hS; go_simp; first | done | with_reducible rfl)
               try simp only [Act.put, List.setIfInBounds_toArray, List.set_cons_zero, List.set_cons_succ, Nat.reduceAdd])
            | (refine wpL_call (v := ?_) (f := ?_) (args := ?_) (by rfl) ?_ ?_ ?_; rotate_left 3
               · (intro w' hS; go_simp; first | done | (refine ⟨?_, ?_⟩ <;> with_reducible rfl) | with_reducible rfl)
               · (intro w' hS; first
                   | ((with_reducible refine (R1.out _).mono ?_); rintro e w2 ⟨rfl, hb⟩; refine ⟨?_, bel2 hS hb⟩; with_reducible rfl)
                   | ((with_reducible refine (R2.out _).mono ?_); rintro e w2 ⟨rfl, hb⟩; refine ⟨?_, bel2 hS hb⟩; with_reducible rfl))
               try simp only [Act.put, List.setIfInBounds_toArray, List.set_cons_zero, List.set_cons_succ, Nat.reduceAdd]))
          refine wpL_done (fun w8 hS => ?_)
          go_wp2_with fail
          go_roundw
          case rel => exact FJ.out _ _ HST.out hS
          case measure => simp [intOf]; omega
    · obtain rfl : k = n := by omega
      go_wp2_with fail
      go_ret
      exact HP.out _ _ hbest hbr
theorem best_none {l : List Fr} {v : Value} (h : BestI l l.length v) (hl : l = []) : v = .int .i64 (-1) := by
  rcases h with ⟨-, h⟩ | ⟨b, -, h⟩
  · exact h
  · have := h.lt; rw [hl] at this; simp at this
theorem best_some {l : List Fr} {v : Value} (h : BestI l l.length v) (hl : l ≠ []) : ∃ b : Nat, v = .int .i64 b ∧ Best l l.length b := by
  rcases h with ⟨h, -⟩ | h
  · exact absurd (List.eq_nil_of_length_eq_zero h) hl
  · exact h
/-- What goes next. -/
theorem rnext_any {Φ : Who} {B r : Nat} {w : World} {a : Bx} (h : RB Φ B w r a) {x : Fr} {ok : Bool} (hx : (sent a.tx).headD Fr.none_ = x) (ho : (!(sent a.tx).isEmpty) = ok) : Calls Try.prog 33 #[.pointer (some ⟨r, 0, none⟩)] w fun e w' => e = .returned (.tuple #[x.val, .bool ok]) ∧ Below w.heap.size w w' := by
  have hl3 := h.2.1.t3
  have N := Lib.hid (fun o => rbest_any (h.below (bl1 w o)))
  obtain ⟨-, -, -, A0, c0, A1, c1, A2, c2, h4, -, ⟨h5, -⟩, -⟩ := h
  have hw := fun W (hb : Below w.heap.size w W) => (h4.below hb).rule
  obtain ⟨n, hn⟩ : ∃ n, a.tx.length = n := ⟨_, rfl⟩
  obtain ⟨l, hla⟩ : ∃ l, a.tx = l := ⟨_, rfl⟩
  rw [hn] at hl3 h4 h5 hw
  rw [hla] at h5 hn N hx ho
  clear hla
  have hl3' : (n : Int) ≤ 3 := by omega
  have HN := Lib.hid hn
  have H5 := Lib.hid h5
  have H4 := Lib.hid h4
  clear h4 h5 hw
  by_cases h0 : l = []
  · subst h0
    have hx' : Fr.none_ = x := hx
    have ho' : false = ok := ho
    subst hx' ho'
    clear hx ho hn
    go_enter Try.func33, Try.ntmps33
    go_wp2_with fail
    refine (N.out _).mono ?_
    rintro e w2 ⟨v, rfl, hv, hb⟩
    obtain rfl := best_none hv rfl
    have hb2 := (bl1 w (.cells Fr.none_.cs.toArray 26)).trans (hb.mono (by simp))
    have BX2 := (Blk.new w 26 Fr.none_.cs.toArray).below hb
    have bx2 := BX2.cell
    have fx2 := BX2.frozen
    go_wp2_with (refine wpList_build rfl 26 _ rfl (by kernel_rfl) ?_; refine wpList_storeB rfl 26 (.tmp 2) (.tmp 9) rfl w.heap.size 26 _ Fr.none_.cs.toArray (by kernel_rfl) (by kernel_rfl) BX2 rfl (by kernel_rfl) (by simp [Value.oneCell']) ?_; intro w3 B3 hg3)
    refine bodyPost_ret (v := .tuple #[Fr.none_.val, .bool false]) (results_blk2 Try.results33 _ w3 w.heap.size 26 _ _ rfl B3 Try.underlying26 rfl (by kernel_rfl)) rfl ⟨rfl, bel_grown hb2 hg3 (Nat.le_refl _)⟩
  · obtain rfl : (true : Bool) = ok := by
      rw [← ho]
      cases hs : sent l with
      | nil => have := sent_length l; rw [hs, hn] at this; exact absurd (List.eq_nil_of_length_eq_zero (by rw [hn]; exact this.symm)) h0
      | cons a r => rfl
    clear hn ho
    go_enter Try.func33, Try.ntmps33
    go_wp2_with fail
    refine (N.out _).mono ?_
    rintro e w2 ⟨v, rfl, hv, hb⟩
    obtain ⟨b, rfl, hB⟩ := best_some hv h0
    have hbl := hB.lt
    rw [HN.out] at hbl
    have hbI : (b : Int) < n := by omega
    have hxz : x = l.getD b Fr.none_ := by rw [← hx, hB.sent]; rfl
    have hz : l[b]? = some x := by rw [hxz, List.getD_eq_getElem?_getD, List.getElem?_eq_getElem (by rw [HN.out]; exact hbl)]; rfl
    have hb2 := (bl1 w (.cells Fr.none_.cs.toArray 26)).trans (hb.mono (by simp))
    have BX2 := (Blk.new w 26 Fr.none_.cs.toArray).below hb
    have bx2 := BX2.cell
    have fx2 := BX2.frozen
    have rf2 := (H4.out.below hb2).cell
    obtain ⟨g3, o3, hA3⟩ := H5.out.at_ (by omega)
    subst hA3
    have rr := row_rule (H5.out.below hb2) b x hz
    have q0 := rr 0 _ rfl w2 (Below.refl _ _)
    have q1 := rr 1 _ rfl w2 (Below.refl _ _)
    have q2 := rr 2 _ rfl w2 (Below.refl _ _)
    have q3 := rr 3 _ rfl w2 (Below.refl _ _)
    have q4 := rr 4 _ rfl w2 (Below.refl _ _)
    have q5 := rr 5 _ rfl w2 (Below.refl _ _)
    have q6 := rr 6 _ rfl w2 (Below.refl _ _)
    have q7 := rr 7 _ rfl w2 (Below.refl _ _)
    have q8 := rr 8 _ rfl w2 (Below.refl _ _)
    have q9 := rr 9 _ rfl w2 (Below.refl _ _)
    have q10 := rr 10 _ rfl w2 (Below.refl _ _)
    simp only [Nat.add_zero] at q0
    clear rr hz hxz hB hv hx
    go_wp2_with (refine wpList_storeB rfl 26 (.tmp 2) (.tmp 16) rfl w.heap.size 26 _ x.cs.toArray rfl rfl BX2 rfl (by kernel_rfl) (by simp [Value.oneCell']) ?_; intro w3 B3 hg3)
    refine bodyPost_ret (v := .tuple #[x.val, .bool true]) (results_blk2 Try.results33 _ w3 w.heap.size 26 _ _ rfl B3 Try.underlying26 rfl (by kernel_rfl)) rfl ⟨rfl, bel_grown hb2 hg3 (Nat.le_refl _)⟩
end Go.Proofs.Ytbmkfjgodgmjnaa
