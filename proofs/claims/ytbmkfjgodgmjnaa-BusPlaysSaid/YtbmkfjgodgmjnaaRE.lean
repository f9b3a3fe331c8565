/- The reference's box: Done, Take, Recv, Over. -/
import Derived.Test.YtbmkfjgodgmjnaaRD
namespace Go.Proofs.Ytbmkfjgodgmjnaa
open Go.RowKit
set_option linter.unusedVariables false
set_option linter.unusedSimpArgs false
/-- What the reference's Done leaves. -/
def RdoneP (Φ : Who) (B : Nat) (w : World) (r : Nat) (a : Bx) (e : Ending) (w' : World) : Prop := ∃ tx, sent tx = (sent a.tx).tail ∧ RbP Φ B w r { a with tx := tx } (.tuple #[]) e w'
set_option maxHeartbeats 1000000 in
theorem rdone_any {Φ : Who} {B r : Nat} {w : World} {a : Bx} (h : RB Φ B w r a) (hB : B ≤ w.heap.size) (hN : Nu Φ w) : Calls Try.prog 29 #[.pointer (some ⟨r, 0, none⟩)] w (RdoneP Φ B w r a) := by
  have N := Lib.hid (rbest_any h)
  have HB := Lib.hid h
  have htw := h.2.1.tw
  have ht3 := h.2.1.t3
  obtain ⟨hBr, hok, hΦ, A0, c0, A1, c1, A2, c2, h4, -, h6, -⟩ := h
  have H4 := Lib.hid h4
  have H6 := Lib.hid h6
  clear h4 h6
  by_cases h0 : a.tx = []
  · have HP : Hid (∀ w', Below w.heap.size w w' → RdoneP Φ B w r a (.returned (.tuple #[])) w') := Lib.hid fun w' hb => ⟨a.tx, by rw [h0]; rfl, rfl, HB.out.below hb, Ext.of_below hN hb⟩
    have H0 := Lib.hid h0
    clear h0
    go_enter Try.func29, Try.ntmps29
    go_wp2_with fail
    refine N.out.mono ?_
    rintro e w1 ⟨v, rfl, hv, hb⟩
    obtain rfl := best_none hv H0.out
    go_wp2_with fail
    go_end0
    exact HP.out _ hb
  · have H0 := Lib.hid h0
    obtain ⟨m, hmm⟩ : ∃ m, a.tx.length = m := ⟨_, rfl⟩
    rw [hmm] at H4 H6 ht3
    have hm3 := Lib.hid hmm
    have hc1 := H6.out.1.2.2.1
    unfold maxLen at hc1
    have hc2 := H6.out.1.2.1
    clear hmm h0
    go_enter Try.func29, Try.ntmps29
    go_wp2_with fail
    refine N.out.mono ?_
    rintro e w1 ⟨v, rfl, hv, hb1⟩
    obtain ⟨b, rfl, hB1⟩ := best_some hv H0.out
    have hbl := hB1.lt
    rw [hm3.out] at hbl
    have hz1 := hb1.size
    have hbI : (b : Int) < m := by omega
    have hm3' : (m : Int) ≤ 3 := by omega
    obtain ⟨g3, o3, hA3⟩ := H6.out.1.at_ (by omega)
    subst hA3
    have HS : Hid (sent (a.tx.take b ++ a.tx.drop (b + 1)) = (sent a.tx).tail) := Lib.hid (by rw [hB1.sent]; rfl)
    obtain ⟨S, hS0⟩ : ∃ S, b + 1 = S := ⟨_, rfl⟩
    have hwS : IntKind.i64.wrap ((b : Int) + 1) = (S : Int) := by rw [← hS0]; exact IntWalk.i64_in _ (by omega)
    have hSm : (S : Int) ≤ m := by omega
    have hSc : (S : Int) ≤ c1 := by omega
    have hbc : (b : Int) ≤ c1 := by omega
    have hmc : (m : Int) ≤ c1 := by omega
    have RF := (H4.out.below hb1).rule
    have HL : Hid ((fcells (a.tx.take b)).length = b * 11) := Lib.hid (by rw [fcells_len, List.length_take, hm3.out, Nat.min_eq_left (by omega)])
    have HR1 : Hid (∀ w', Below w1.heap.size w1 w' → Rd w' w1.heap.size (some ⟨g3, o3, none⟩) (fcells (a.tx.take b))) := Lib.hid fun w' hb => by rw [fcells_take]; exact ((H6.out.1.below hb1).rd.below hb).take _
    have HR0 : Hid (∀ w', Below w1.heap.size w1 w' → Rd w' w1.heap.size (if c1 = S then some ⟨g3, o3, none⟩ else some ⟨g3, o3 + S * 11, none⟩) (fcells (a.tx.drop S))) := Lib.hid fun w' hb => by
      have h1 := (H6.out.1.below hb1).cut (k := S) (by omega) (by decide)
      rw [← fcells_drop] at h1
      have h2 := h1.rd.below hb
      rw [Option.map_some, show (⟨g3, o3, none⟩ : Addr).add (S * 11) = ⟨g3, o3 + S * 11, none⟩ from by unfold Addr.add; split <;> simp_all <;> omega] at h2
      exact h2
    clear hv hB1
    go_wp2_with fail
    refine wp_region_any (by kernel_rfl) ?_
    refine wpAny_take (i := 0) (oi := _) (v := ?_) rfl (by kernel_rfl) (by kernel_rfl) (by kernel_rfl) (fun _ _ _ h => h) (Or.inl ⟨by rfl, ?_⟩) ?_
    rotate_left
    · intro w'
      go_simp
      first | done | with_reducible rfl
    try simp only [Act.put, List.setIfInBounds_toArray, List.set_cons_zero, List.set_cons_succ, List.getElem_toArray, List.getElem_cons_zero, List.getElem_cons_succ]
    refine wpAny_g (fun w' => Below w1.heap.size w1 w') Bel (mkG [(1, gEmpty w1.heap.size 26 11), (8, gRow w1.heap.size 26 11 b (fcells (a.tx.take b)))]) [16, 17, 18, 19] [0] (by kernel_rfl) (by kernel_rfl) (by kernel_rfl) (stays_mk _ _) (Below.refl _ _).drew ?_
    refine wpH_gone (by rfl) ?_
    refine wpH_grow (by rfl) rfl (by rfl) (fun w' hS hF K hK => ?_) (fun g1 => ?_)
    · go_simp
      exact hK (none, w'.heap.size) _ ((Below.refl _ _).alloc (Nat.le_refl _) _) ((fr26 w').more hS.size)
    obtain ⟨Ag1, cg1⟩ := g1
    try dsimp only [gVal, gEmpty, gRow, gLit, gPtr]
    try simp only [Act.put, List.setIfInBounds_toArray, List.set_cons_zero, List.set_cons_succ, Nat.reduceAdd]
    first
      | (refine wpH_skip (by rfl) (by rfl) ?_; try simp only [Act.put, List.setIfInBounds_toArray, List.set_cons_zero, List.set_cons_succ, Nat.reduceAdd])
      | (refine wpH_val (v := ?_) (by rfl) (by rfl) ?_ ?_; rotate_left; · (intro w' hS hF; go_simp; first | done | with_reducible rfl)
         try simp only [Act.put, List.setIfInBounds_toArray, List.set_cons_zero, List.set_cons_succ, Nat.reduceAdd])
    first
      | (refine wpH_skip (by rfl) (by rfl) ?_; try simp only [Act.put, List.setIfInBounds_toArray, List.set_cons_zero, List.set_cons_succ, Nat.reduceAdd])
      | (refine wpH_val (v := ?_) (by rfl) (by rfl) ?_ ?_; rotate_left; · (intro w' hS hF; go_simp; first | done | with_reducible rfl)
         try simp only [Act.put, List.setIfInBounds_toArray, List.set_cons_zero, List.set_cons_succ, Nat.reduceAdd])
    first
      | (refine wpH_skip (by rfl) (by rfl) ?_; try simp only [Act.put, List.setIfInBounds_toArray, List.set_cons_zero, List.set_cons_succ, Nat.reduceAdd])
      | (refine wpH_val (v := ?_) (by rfl) (by rfl) ?_ ?_; rotate_left; · (intro w' hS hF; go_simp; first | done | with_reducible rfl)
         try simp only [Act.put, List.setIfInBounds_toArray, List.set_cons_zero, List.set_cons_succ, Nat.reduceAdd])
    first
      | (refine wpH_skip (by rfl) (by rfl) ?_; try simp only [Act.put, List.setIfInBounds_toArray, List.set_cons_zero, List.set_cons_succ, Nat.reduceAdd])
      | (refine wpH_val (v := ?_) (by rfl) (by rfl) ?_ ?_; rotate_left; · (intro w' hS hF; go_simp; first | done | with_reducible rfl)
         try simp only [Act.put, List.setIfInBounds_toArray, List.set_cons_zero, List.set_cons_succ, Nat.reduceAdd])
    first
      | (refine wpH_skip (by rfl) (by rfl) ?_; try simp only [Act.put, List.setIfInBounds_toArray, List.set_cons_zero, List.set_cons_succ, Nat.reduceAdd])
      | (refine wpH_val (v := ?_) (by rfl) (by rfl) ?_ ?_; rotate_left; · (intro w' hS hF; go_simp; first | done | with_reducible rfl)
         try simp only [Act.put, List.setIfInBounds_toArray, List.set_cons_zero, List.set_cons_succ, Nat.reduceAdd])
    first
      | (refine wpH_skip (by rfl) (by rfl) ?_; try simp only [Act.put, List.setIfInBounds_toArray, List.set_cons_zero, List.set_cons_succ, Nat.reduceAdd])
      | (refine wpH_val (v := ?_) (by rfl) (by rfl) ?_ ?_; rotate_left; · (intro w' hS hF; go_simp; first | done | with_reducible rfl)
         try simp only [Act.put, List.setIfInBounds_toArray, List.set_cons_zero, List.set_cons_succ, Nat.reduceAdd])
    refine wpH_grow (by rfl) rfl (by rfl) (fun w' hS hF K hK => ?_) (fun g8 => ?_)
    · have f1 : Own w' w1.heap.size 26 11 _ 0 0 [] := hF _ _ (.head _) (needs_of (by kernel_rfl))
      refine wp_app0 w' (.tmp 8) (.tmp 14) 36 rfl w1.heap.size 26 z26 11 24 Try.underlying36 info26 rfl (by decide) _ rfl f1 _ _ b c1 _ rfl HL.out (HR1.out w' hS) (fcells_one _) (by unfold maxLen; omega) (by omega) hS.size ?_
      intro A5 c5 w5 ho5 hb5
      exact hK (A5, c5) w5 hb5 ho5
    obtain ⟨Ag8, cg8⟩ := g8
    try dsimp only [gVal, gEmpty, gRow, gLit, gPtr]
    try simp only [Act.put, List.setIfInBounds_toArray, List.set_cons_zero, List.set_cons_succ, Nat.reduceAdd]
    first
      | (refine wpH_skip (by rfl) (by rfl) ?_; try simp only [Act.put, List.setIfInBounds_toArray, List.set_cons_zero, List.set_cons_succ, Nat.reduceAdd])
      | (refine wpH_val (v := ?_) (by rfl) (by rfl) ?_ ?_; rotate_left; · (intro w' hS hF; go_simp; first | done | with_reducible rfl)
         try simp only [Act.put, List.setIfInBounds_toArray, List.set_cons_zero, List.set_cons_succ, Nat.reduceAdd])
    first
      | (refine wpH_skip (by rfl) (by rfl) ?_; try simp only [Act.put, List.setIfInBounds_toArray, List.set_cons_zero, List.set_cons_succ, Nat.reduceAdd])
      | (refine wpH_val (v := ?_) (by rfl) (by rfl) ?_ ?_; rotate_left; · (intro w' hS hF; go_simp; first | done | with_reducible rfl)
         try simp only [Act.put, List.setIfInBounds_toArray, List.set_cons_zero, List.set_cons_succ, Nat.reduceAdd])
    first
      | (refine wpH_skip (by rfl) (by rfl) ?_; try simp only [Act.put, List.setIfInBounds_toArray, List.set_cons_zero, List.set_cons_succ, Nat.reduceAdd])
      | (refine wpH_val (v := ?_) (by rfl) (by rfl) ?_ ?_; rotate_left; · (intro w' hS hF; go_simp; first | done | with_reducible rfl)
         try simp only [Act.put, List.setIfInBounds_toArray, List.set_cons_zero, List.set_cons_succ, Nat.reduceAdd])
    first
      | (refine wpH_skip (by rfl) (by rfl) ?_; try simp only [Act.put, List.setIfInBounds_toArray, List.set_cons_zero, List.set_cons_succ, Nat.reduceAdd])
      | (refine wpH_val (v := ?_) (by rfl) (by rfl) ?_ ?_; rotate_left; · (intro w' hS hF; go_simp; first | done | with_reducible rfl)
         try simp only [Act.put, List.setIfInBounds_toArray, List.set_cons_zero, List.set_cons_succ, Nat.reduceAdd])
    first
      | (refine wpH_skip (by rfl) (by rfl) ?_; try simp only [Act.put, List.setIfInBounds_toArray, List.set_cons_zero, List.set_cons_succ, Nat.reduceAdd])
      | (refine wpH_val (v := ?_) (by rfl) (by rfl) ?_ ?_; rotate_left; · (intro w' hS hF; go_simp; first | done | with_reducible rfl)
         try simp only [Act.put, List.setIfInBounds_toArray, List.set_cons_zero, List.set_cons_succ, Nat.reduceAdd])
    first
      | (refine wpH_skip (by rfl) (by rfl) ?_; try simp only [Act.put, List.setIfInBounds_toArray, List.set_cons_zero, List.set_cons_succ, Nat.reduceAdd])
      | (refine wpH_val (v := ?_) (by rfl) (by rfl) ?_ ?_; rotate_left; · (intro w' hS hF; go_simp; first | done | with_reducible rfl)
         try simp only [Act.put, List.setIfInBounds_toArray, List.set_cons_zero, List.set_cons_succ, Nat.reduceAdd])
    first
      | (refine wpH_skip (by rfl) (by rfl) ?_; try simp only [Act.put, List.setIfInBounds_toArray, List.set_cons_zero, List.set_cons_succ, Nat.reduceAdd])
      | (refine wpH_val (v := ?_) (by rfl) (by rfl) ?_ ?_; rotate_left; · (intro w' hS hF; go_simp; first | done | with_reducible rfl)
         try simp only [Act.put, List.setIfInBounds_toArray, List.set_cons_zero, List.set_cons_succ, Nat.reduceAdd])
    refine wpH_tail (by rfl) ?_
    refine wpH_tail (by rfl) ?_
    refine wpH_tail (by rfl) ?_
    refine wpH_tail (by rfl) ?_
    refine wpH_done (fun w8 hS hF => ?_)
    have f8 := hF _ _ (.head _)
    have f1 := hF _ _ (.tail _ (.head _))
    try dsimp only [gVal, gEmpty, gRow, gLit, gPtr] at f1 f8
    clear hF
    simp only [List.filterMap_cons, List.filterMap_nil, List.getElem?_toArray, List.getElem?_cons_succ, List.getElem?_cons_zero]
    refine wpList_app _ rfl (.tmp 15) (.tmp 22) 36 rfl w1.heap.size 26 z26 11 24 Try.underlying36 info26 rfl (by decide) _ _ _ _ rfl f8 _ _ _ _ (fcells (a.tx.drop S)) rfl (by rw [fcells_len, List.length_drop, hm3.out]; try omega) (HR0.out _ hS) (fcells_one _) (by unfold maxLen; omega) (by omega) hS.size ?_
    intro A9 c9 w9 ho9 hg9 hbk9
    have hb9 : Below w1.heap.size w1 w9 := bel_app hS f8 (Nat.le_refl _) hg9
    have hbw : Below w.heap.size w w9 := hb1.trans (hb9.mono hz1)
    have rf9 := (H4.out.below hbw).cell
    have ff9 := (H4.out.below hbw).frozen
    have hln : (a.tx.take b ++ a.tx.drop S).length = b + (m - S) := by rw [List.length_append, List.length_take, List.length_drop, hm3.out]; omega
    have HX := Lib.hid (HB.out.tx_new hB hN hbw (A := A9) (n := b + (m - S)) (c := c9) (l := a.tx.take b ++ a.tx.drop S) (by
      rw [fcells_app]
      exact ho9.more hz1) hln (by omega) (fun x hx => by
      rcases List.mem_append.1 hx with h | h
      · exact HB.out.2.1.tw x (List.mem_of_mem_take h)
      · exact HB.out.2.1.tw x (List.mem_of_mem_drop h)))
    rw [hS0] at HS
    clear RF f1 f8 hln
    go_wp2_with fail
    all_goals
      go_end0
      exact ⟨_, HS.out, rfl, HX.out.1, HX.out.2⟩
set_option maxHeartbeats 1000000 in
theorem rtake_any {Φ : Who} {B r : Nat} {w : World} {a : Bx} (h : RB Φ B w r a) (hB : B ≤ w.heap.size) (hN : Nu Φ w) (f : Fr) (hf : f.wf) : Calls Try.prog 30 #[.pointer (some ⟨r, 0, none⟩), f.val] w (RbP Φ B w r (takeX a f) (.bool (takeB a f))) := by
  have hr4 := h.2.1.r4
  have HB := Lib.hid h
  have LT := Lib.hid (fun w' (hb : Below w.heap.size w w') => rlet_any (h.below hb) f hf)
  obtain ⟨hBr, hok, hΦ, A0, c0, A1, c1, A2, c2, h4, -, -, h7⟩ := h
  obtain ⟨T, hT⟩ : ∃ T, takeB a f = T := ⟨_, rfl⟩
  rw [hT] at LT ⊢
  obtain ⟨m, hmm⟩ : ∃ m, a.rx.length = m := ⟨_, rfl⟩
  rw [hmm] at h4 h7 hr4
  have hm3 := Lib.hid hmm
  have HT := Lib.hid hT
  have H4 := Lib.hid h4
  have H7 := Lib.hid h7
  have hc1 := h7.1.2.2.1
  unfold maxLen at hc1
  have hc2 := h7.1.2.1
  have hm4 : (m : Int) ≤ 4 := by omega
  have hr0 := h4.lt
  clear hmm hT h4 h7
  go_enter Try.func30, Try.ntmps30
  go_upto_region 1 with fail
  refine wp_named fun W hW => ?_
  obtain ⟨BW, hbW⟩ := blk1 (c1 := f.cs.toArray) hW
  clear hW
  have bw := BW.cell
  have LW := Lib.hid (LT.out W hbW)
  go_wp2_with fail
  refine LW.out.mono ?_
  rintro e w1 ⟨rfl, b1⟩
  have hb1 := hbW.trans (b1.mono hbW.size)
  have hz1 := hb1.size
  have rf1 := (H4.out.below hb1).cell
  have ff1 := (H4.out.below hb1).frozen
  clear bw LW LT
  cases T
  · have hX : takeX a f = a := by unfold takeX; rw [HT.out]; rfl
    have HP := Lib.hid (show RbP Φ B w r (takeX a f) (.bool false) (.returned (.bool false)) w1 by rw [hX]; exact ⟨rfl, HB.out.below hb1, Ext.of_below hN hb1⟩)
    clear hX
    go_wp2_with fail
    go_ret
    exact HP.out
  · rcases Nat.lt_or_ge m 4 with h4 | h4
    · have h4' : (m : Int) < 4 := by omega
      have hX : takeX a f = { a with rx := a.rx ++ [f] } := by unfold takeX; rw [HT.out, if_pos rfl, if_pos (by rw [hm3.out]; exact h4)]
      have HP : Hid (∀ w', RB Φ B w' r { a with rx := a.rx ++ [f] } ∧ Ext B (Sr r) Φ Φ w w' → RbP Φ B w r (takeX a f) (.bool true) (.returned (.bool true)) w') := Lib.hid fun w' hw => by rw [hX]; exact ⟨rfl, hw.1, hw.2⟩
      have RF := (H4.out.below hb1).rule
      have RP := (BW.below b1).rule
      have HL : Hid ((fcells a.rx).length = m * 11) := Lib.hid (by rw [fcells_len, hm3.out])
      have HR : Hid (∀ w', Below w1.heap.size w1 w' → Rd w' w1.heap.size A2 (fcells a.rx)) := Lib.hid fun w' hb => (H7.out.1.below hb1).rd.below hb
      clear hX
      go_wp2_with fail
      clear rf1 ff1
      refine wp_region_any (by kernel_rfl) ?_
      refine wpAny_take (i := 0) (oi := _) (v := ?_) rfl (by kernel_rfl) (by kernel_rfl) (by kernel_rfl) (fun _ _ _ h => h) (Or.inl ⟨by rfl, ?_⟩) ?_
      rotate_left
      · intro w'
        go_simp
        first | done | with_reducible rfl
      try simp only [Act.put, List.setIfInBounds_toArray, List.set_cons_zero, List.set_cons_succ, List.getElem_toArray, List.getElem_cons_zero, List.getElem_cons_succ]
      refine wpAny_g (fun w' => Below w1.heap.size w1 w') Bel (mkG [(1, gEmpty w1.heap.size 26 11), (6, gRow w1.heap.size 26 11 m (fcells a.rx)), (8, gLit w1.heap.size 26 1 f.cs.toArray)]) [9, 10, 11, 12] [0] (by kernel_rfl) (by kernel_rfl) (by kernel_rfl) (stays_mk _ _) (Below.refl _ _).drew ?_
      refine wpH_gone (by rfl) ?_
      refine wpH_grow (by rfl) rfl (by rfl) (fun w' hS hF K hK => ?_) (fun g1 => ?_)
      · go_simp
        exact hK (none, w'.heap.size) _ ((Below.refl _ _).alloc (Nat.le_refl _) _) ((fr26 w').more hS.size)
      obtain ⟨Ag1, cg1⟩ := g1
      try dsimp only [gVal, gEmpty, gRow, gLit, gPtr]
      try simp only [Act.put, List.setIfInBounds_toArray, List.set_cons_zero, List.set_cons_succ, Nat.reduceAdd]
      first
        | (refine wpH_skip (by rfl) (by rfl) ?_; try simp only [Act.put, List.setIfInBounds_toArray, List.set_cons_zero, List.set_cons_succ, Nat.reduceAdd])
        | (refine wpH_val (v := ?_) (by rfl) (by rfl) ?_ ?_; rotate_left; · (intro w' hS hF; go_simp; first | done | with_reducible rfl)
           try simp only [Act.put, List.setIfInBounds_toArray, List.set_cons_zero, List.set_cons_succ, Nat.reduceAdd])
      first
        | (refine wpH_skip (by rfl) (by rfl) ?_; try simp only [Act.put, List.setIfInBounds_toArray, List.set_cons_zero, List.set_cons_succ, Nat.reduceAdd])
        | (refine wpH_val (v := ?_) (by rfl) (by rfl) ?_ ?_; rotate_left; · (intro w' hS hF; go_simp; first | done | with_reducible rfl)
           try simp only [Act.put, List.setIfInBounds_toArray, List.set_cons_zero, List.set_cons_succ, Nat.reduceAdd])
      first
        | (refine wpH_skip (by rfl) (by rfl) ?_; try simp only [Act.put, List.setIfInBounds_toArray, List.set_cons_zero, List.set_cons_succ, Nat.reduceAdd])
        | (refine wpH_val (v := ?_) (by rfl) (by rfl) ?_ ?_; rotate_left; · (intro w' hS hF; go_simp; first | done | with_reducible rfl)
           try simp only [Act.put, List.setIfInBounds_toArray, List.set_cons_zero, List.set_cons_succ, Nat.reduceAdd])
      first
        | (refine wpH_skip (by rfl) (by rfl) ?_; try simp only [Act.put, List.setIfInBounds_toArray, List.set_cons_zero, List.set_cons_succ, Nat.reduceAdd])
        | (refine wpH_val (v := ?_) (by rfl) (by rfl) ?_ ?_; rotate_left; · (intro w' hS hF; go_simp; first | done | with_reducible rfl)
           try simp only [Act.put, List.setIfInBounds_toArray, List.set_cons_zero, List.set_cons_succ, Nat.reduceAdd])
      refine wpH_grow (by rfl) rfl (by rfl) (fun w' hS hF K hK => ?_) (fun g6 => ?_)
      · have f1 : Own w' w1.heap.size 26 11 _ 0 0 [] := hF _ _ (.head _) (needs_of (by kernel_rfl))
        refine wp_app0 w' (.tmp 19) (.tmp 23) 36 rfl w1.heap.size 26 z26 11 24 Try.underlying36 info26 rfl (by decide) _ rfl f1 _ _ m c2 _ rfl HL.out (HR.out w' hS) (fcells_one _) (by unfold maxLen; omega) (by omega) hS.size ?_
        intro A5 c5 w5 ho5 hb5
        exact hK (A5, c5) w5 hb5 ho5
      obtain ⟨Ag6, cg6⟩ := g6
      try dsimp only [gVal, gEmpty, gRow, gLit, gPtr]
      try simp only [Act.put, List.setIfInBounds_toArray, List.set_cons_zero, List.set_cons_succ, Nat.reduceAdd]
      first
        | (refine wpH_skip (by rfl) (by rfl) ?_; try simp only [Act.put, List.setIfInBounds_toArray, List.set_cons_zero, List.set_cons_succ, Nat.reduceAdd])
        | (refine wpH_val (v := ?_) (by rfl) (by rfl) ?_ ?_; rotate_left; · (intro w' hS hF; go_simp; first | done | with_reducible rfl)
           try simp only [Act.put, List.setIfInBounds_toArray, List.set_cons_zero, List.set_cons_succ, Nat.reduceAdd])
      refine wpH_grow (by rfl) rfl (by rfl) (fun w' hS hF K hK => ?_) (fun g8 => ?_)
      · go_simp
        exact hK (none, w'.heap.size) _ ((Below.refl _ _).alloc (Nat.le_refl _) _) ⟨hS.size, Blk.new _ _ _⟩
      obtain ⟨Ag8, cg8⟩ := g8
      try dsimp only [gVal, gEmpty, gRow, gLit, gPtr]
      try simp only [Act.put, List.setIfInBounds_toArray, List.set_cons_zero, List.set_cons_succ, Nat.reduceAdd]
      refine wpH_tail (by rfl) ?_
      refine wpH_tail (by rfl) ?_
      refine wpH_tail (by rfl) ?_
      refine wpH_tail (by rfl) ?_
      refine wpH_done (fun w8 hS hF => ?_)
      have f8 := hF _ _ (.head _)
      have f6 := hF _ _ (.tail _ (.head _))
      have f1 := hF _ _ (.tail _ (.tail _ (.head _)))
      try dsimp only [gVal, gEmpty, gRow, gLit, gPtr] at f1 f6 f8
      clear hF
      simp only [List.filterMap_cons, List.filterMap_nil, List.getElem?_toArray, List.getElem?_cons_succ, List.getElem?_cons_zero]
      refine wpList_app _ rfl (.tmp 24) (.tmp 26) 36 rfl w1.heap.size 26 z26 11 24 Try.underlying36 info26 rfl (by decide) _ _ _ _ rfl f6 _ _ 1 1 f.cs rfl rfl (f8.2.rd) (fr_one f) (by unfold maxLen; omega) (by omega) hS.size ?_
      intro A9 c9 w9 ho9 hg9 hbk9
      have hb9 : Below w1.heap.size w1 w9 := bel_app hS f6 (Nat.le_refl _) hg9
      have hbw : Below w.heap.size w w9 := hb1.trans (hb9.mono hz1)
      have rf9 := (H4.out.below hbw).cell
      have ff9 := (H4.out.below hbw).frozen
      have HX := Lib.hid (HB.out.rx_new hB hN hbw (A := A9) (n := m + 1) (c := c9) (l := a.rx ++ [f]) (by
        rw [fcells_app]
        simp only [fcells, List.append_nil]
        exact ho9.more hz1) (by rw [List.length_append, hm3.out]; rfl) (by omega) (fun x hx => by
        rcases List.mem_append.1 hx with h | h
        · exact HB.out.2.1.rw x h
        · rw [List.mem_singleton.1 h]; exact hf))
      clear RF RP f1 f6 f8
      go_wp2_with fail
      go_ret
      exact HP.out _ HX.out
    · have h4' : (4 : Int) ≤ m := by omega
      have hX : takeX a f = { a with lost := true } := by unfold takeX; rw [HT.out, if_pos rfl, if_neg (by rw [hm3.out]; omega)]
      have HP : Hid (∀ w', RB Φ B w' r { a with lost := true } ∧ Ext B (Sr r) Φ Φ w w' → RbP Φ B w r (takeX a f) (.bool true) (.returned (.bool true)) w') := Lib.hid fun w' hw => by rw [hX]; exact ⟨rfl, hw.1, hw.2⟩
      have HX := Lib.hid (HB.out.lost_new hN hb1 true)
      clear hX
      go_wp2_with fail
      go_ret
      exact HP.out _ HX.out
theorem rover_any {Φ : Who} {B r : Nat} {w : World} {a : Bx} (h : RB Φ B w r a) (hN : Nu Φ w) : Calls Try.prog 32 #[.pointer (some ⟨r, 0, none⟩)] w (RbP Φ B w r { a with lost := false } (.bool a.lost)) := by
  have HX := Lib.hid (h.lost_new hN (Below.refl _ _) false)
  obtain ⟨hBr, hok, hΦ, A0, c0, A1, c1, A2, c2, h4, -⟩ := h
  have rf := h4.cell
  have ff := h4.frozen
  obtain ⟨l, hl⟩ : ∃ l, a.lost = l := ⟨_, rfl⟩
  rw [hl] at rf ⊢
  clear hl h4
  go_enter Try.func32, Try.ntmps32
  go_wp2_with fail
  go_ret
  exact ⟨rfl, HX.out.1, HX.out.2⟩
/-- And behind it a store to a block of the call's own. -/
theorem RB.rx_new3 {Φ : Who} {B r g : Nat} {w w9 w3 : World} {a : Bx} (h : RB Φ B w r a) (hB : B ≤ w.heap.size) (hN : Nu Φ w) (hb : Below w.heap.size w w9) {A : Option Addr} {n c : Nat} {l : List Fr} (ho : Own w9 w.heap.size 26 11 A n c (fcells l)) (hl : l.length = n) (h4 : n ≤ 4) (hw : ∀ f ∈ l, f.wf)
    (hg0 : w.heap.size ≤ g) (hne : blkOf A ≠ some g) (hg : (w9.setCell ⟨r, 2, none⟩ (.slice A n c)).grownBy w3 (some g)) : RB Φ B w3 r { a with rx := l } ∧ Ext B (Sr r) Φ Φ w w3 := by
  have hx := h.rx_new hB hN hb ho hl h4 hw
  have hr0 := h.lt
  have hs := hb.size
  obtain ⟨hBr, hok, hΦ, A0, c0, A1, c1, A2, c2, k4, h5, h6, h7⟩ := h
  have b1 := (k4.below hb).set_ 2 (.slice A n c)
  have old : ∀ {e size n' c' : Nat} {A' : Option Addr} {xs : List Value}, OwC Φ (0, 9) w B e size A' n' c' xs → OwC Φ (0, 9) w3 B e size A' n' c' xs := fun {e size n' c' A' xs} ho1 => by
    have h1 := rb_far (k := 0) (j := 2) (v := .slice A n c) hΦ (ho1.below hb)
    exact ⟨h1.1.grown hg (.inr fun e => by have := (ho1.1.lt e).2; omega), h1.2⟩
  have h9 : OwC Φ (0, 9) w9 B 26 11 A n c (fcells l) := ⟨ho.more hB, fun g hg => hN g (ho.lt hg).1⟩
  have h9' := rb_far (k := 0) (j := 2) (v := .slice A n c) hΦ h9
  subst hl
  refine ⟨⟨hBr, ⟨hok.f8, hok.t3, h4, hok.fw, hok.tw, hw⟩, hΦ, A0, c0, A1, c1, A, c, b1.grown hg (by simp; omega), old h5, old h6, h9'.1.grown hg (.inr hne), h9'.2⟩, fun _ _ => rfl, hx.2.nu.more hg.size, hx.2.2.2.trans (Chg.of_grown hg) fun i hi hx => by injection hx; omega⟩
theorem rrecv_no {Φ : Who} {B r : Nat} {w : World} {a : Bx} (h : RB Φ B w r a) (hN : Nu Φ w) (h0 : a.rx = []) : Calls Try.prog 31 #[.pointer (some ⟨r, 0, none⟩)] w (RbP Φ B w r a (.tuple #[Fr.none_.val, .bool false])) := by
  have HB := Lib.hid h
  obtain ⟨hBr, hok, hΦ, A0, c0, A1, c1, A2, c2, h4, -⟩ := h
  rw [h0] at h4
  have rf := h4.rule
  have hr0 := h4.lt
  clear h4 h0
  go_enter Try.func31, Try.ntmps31
  go_upto_region 1 with fail
  refine wp_named fun W hW => ?_
  obtain ⟨BW, hbW⟩ := blk1 (c1 := Fr.none_.cs.toArray) hW
  clear hW
  have rfW := fun i => rf W hbW i
  clear rf
  go_wp2_with (refine wpList_build rfl 26 _ rfl (by kernel_rfl) ?_; refine wpList_storeB rfl 26 (.tmp 2) (.tmp 11) rfl w.heap.size 26 _ Fr.none_.cs.toArray (by kernel_rfl) (by kernel_rfl) BW rfl (by kernel_rfl) (by simp [Value.oneCell']) ?_; intro w3 B3 hg3)
  have hb3 := bel_grown hbW hg3 (Nat.le_refl _)
  refine bodyPost_ret (v := .tuple #[Fr.none_.val, .bool false]) (results_blk2 Try.results31 _ w3 w.heap.size 26 _ _ rfl B3 Try.underlying26 rfl (by kernel_rfl)) rfl ⟨rfl, HB.out.below hb3, Ext.of_below hN hb3⟩
set_option maxHeartbeats 1000000 in
theorem rrecv_yes {Φ : Who} {B r : Nat} {w : World} {a : Bx} (h : RB Φ B w r a) (hB : B ≤ w.heap.size) (hN : Nu Φ w) {x : Fr} {l : List Fr} (h0 : a.rx = x :: l) : Calls Try.prog 31 #[.pointer (some ⟨r, 0, none⟩)] w (RbP Φ B w r { a with rx := l } (.tuple #[x.val, .bool true])) := by
  have HB := Lib.hid h
  have hrw := h.2.1.rw
  have hr4 := h.2.1.r4
  obtain ⟨hBr, hok, hΦ, A0, c0, A1, c1, A2, c2, h4, -, -, h7⟩ := h
  rw [h0] at h4 h7 hr4 hrw
  obtain ⟨m, hmm⟩ : ∃ m, (x :: l).length = m := ⟨_, rfl⟩
  have hl1 : l.length = m - 1 := by rw [← hmm]; rfl
  have hm1 : 1 ≤ m := by rw [← hmm]; simp
  rw [hmm] at h4 h7 hr4
  have HM := Lib.hid hmm
  have HL1 := Lib.hid hl1
  have hmI : (m : Int) ≤ 4 := by omega
  have hmJ : (1 : Int) ≤ m := by omega
  have hmK : (0 : Int) < m := by omega
  have hm0 : ((m : Int) == 0) = false := beq_eq_false_iff_ne.2 (by omega)
  have hmL : 0 < m := hm1
  obtain ⟨g3, o3, hA3⟩ := h7.1.at_ (by omega)
  subst hA3
  have hc1 := h7.1.2.2.1
  unfold maxLen at hc1
  have hc2 := h7.1.2.1
  have hcI : (1 : Int) ≤ c2 := by omega
  have hcJ : (m : Int) ≤ c2 := by omega
  have H7 := Lib.hid h7
  have H4 := Lib.hid h4
  have hr0 := h4.lt
  clear h4 h7 hmm hl1 h0
  go_enter Try.func31, Try.ntmps31
  go_upto_region 1 with fail
  refine wp_named fun W hW => ?_
  obtain ⟨BW, hbW⟩ := blk1 (c1 := Fr.none_.cs.toArray) hW
  clear hW
  have hzW := hbW.size
  have rfW := (H4.out.below hbW).cell
  have ffW := (H4.out.below hbW).frozen
  have rr := row_rule (H7.out.1.below hbW) 0 x rfl
  have q0 := rr 0 _ rfl W (Below.refl _ _)
  have q1 := rr 1 _ rfl W (Below.refl _ _)
  have q2 := rr 2 _ rfl W (Below.refl _ _)
  have q3 := rr 3 _ rfl W (Below.refl _ _)
  have q4 := rr 4 _ rfl W (Below.refl _ _)
  have q5 := rr 5 _ rfl W (Below.refl _ _)
  have q6 := rr 6 _ rfl W (Below.refl _ _)
  have q7 := rr 7 _ rfl W (Below.refl _ _)
  have q8 := rr 8 _ rfl W (Below.refl _ _)
  have q9 := rr 9 _ rfl W (Below.refl _ _)
  have q10 := rr 10 _ rfl W (Below.refl _ _)
  simp only [Nat.add_zero, Nat.zero_mul] at q0 q1 q2 q3 q4 q5 q6 q7 q8 q9 q10
  clear rr
  go_upto_region 4 with fail
  refine wp_named fun W1 hW1 => ?_
  obtain ⟨B1, hbW1⟩ := blk1 (c1 := x.cs.toArray) hW1
  clear hW1 q0 q1 q2 q3 q4 q5 q6 q7 q8 q9 q10
  have hb1 := hbW.trans (hbW1.mono hzW)
  have hz1 := hb1.size
  have rf1 := (H4.out.below hb1).cell
  have ff1 := (H4.out.below hb1).frozen
  have BW1 := BW.below hbW1
  have O1 := H7.out.1.below hb1
  have HR0 : Hid (∀ w', Below W1.heap.size W1 w' → Rd w' W1.heap.size (if c2 = 1 then some ⟨g3, o3, none⟩ else some ⟨g3, o3 + 11, none⟩) (fcells l)) := Lib.hid fun w' hb => by
    have h1 := O1.cut (k := 1) (by omega) (by decide)
    rw [← fcells_drop, List.drop_succ_cons, List.drop_zero] at h1
    have h2 := h1.rd.below hb
    rw [Option.map_some, Nat.one_mul, show (⟨g3, o3, none⟩ : Addr).add 11 = ⟨g3, o3 + 11, none⟩ from by unfold Addr.add; split <;> simp_all <;> omega] at h2
    exact h2
  have HLl : Hid ((fcells l).length = (m - 1) * 11) := Lib.hid (by rw [fcells_len, HL1.out])
  have hbe := (Below.refl W1.heap.size W1).alloc (Nat.le_refl _) (.cells #[] 26)
  have rf2 := ((H4.out.below hb1).below (bl1 W1 (.cells #[] 26))).cell
  clear rfW ffW O1
  have FIN : Hid (∀ w9 A9 c9, Own w9 W1.heap.size 26 11 A9 (m - 1) c9 (fcells l) → Below W1.heap.size W1 w9 → ∀ W2, W2 = w9.setCell ⟨r, 2, none⟩ (.slice A9 (m - 1) c9) → Blk W2 W.heap.size 26 x.cs.toArray ∧ Blk W2 w.heap.size 26 Fr.none_.cs.toArray ∧ ∀ w3, W2.grownBy w3 (some w.heap.size) → RB Φ B w3 r { a with rx := l } ∧ Ext B (Sr r) Φ Φ w w3) := Lib.hid fun w9 A9 c9 ho hb W2 hW2 => by
    subst hW2
    have hbw : Below w.heap.size w w9 := hb1.trans (hb.mono hz1)
    have hx := HB.out.rx_new hB hN hbw (ho.more hz1) HL1.out (by omega) (fun y hy => hrw y (by simp [hy]))
    refine ⟨(B1.below hb).far (by dsimp only; omega) _, (BW1.below hb).far (by dsimp only; omega) _, fun w3 hg3 => ?_⟩
    exact HB.out.rx_new3 hB hN hbw (ho.more hz1) HL1.out (by omega) (fun y hy => hrw y (by simp [hy])) (Nat.le_refl _) (fun hh => by have := (ho.lt hh).1; have := BW1.lt; omega) hg3
  go_upto_region 5 with (at_builtin; refine wpList_app _ rfl (.tmp 19) (.tmp 24) 36 rfl W1.heap.size 26 z26 11 24 Try.underlying36 info26 rfl (by decide) _ 0 0 [] rfl (fr26 W1) _ _ (m - 1) _ (fcells l) (by first | rfl | (simp; done)) HLl.out (HR0.out _ hbe) (fcells_one _) (by unfold maxLen; omega) (by omega) (by simp) ?_; intro A9 c9 w9 ho9 hg9 hbk9; have hb9 : Below W1.heap.size W1 w9 := bel_app hbe (fr26 W1) (Nat.le_refl _) hg9; have rf9 := (H4.out.below (hb1.trans (hb9.mono hz1))).cell; have ff9 := (H4.out.below (hb1.trans (hb9.mono hz1))).frozen)
  all_goals
    rw [Nat.zero_add, List.nil_append] at ho9
    refine wp_named fun W2 hW2 => ?_
    obtain ⟨BX2, BW2, FN⟩ := FIN.out w9 A9 c9 ho9 hb9 W2 hW2
    have bx2 := BX2.cell
    have FN := Lib.hid FN
    clear hW2 rf9 ff9 rf1 ff1 rf2
    go_wp2_with (refine wpList_storeB rfl 26 (.tmp 2) (.tmp 28) rfl w.heap.size 26 _ x.cs.toArray rfl rfl BW2 rfl (by kernel_rfl) (by simp [Value.oneCell']) ?_; intro w3 B3 hg3)
    all_goals exact bodyPost_ret (v := .tuple #[x.val, .bool true]) (results_blk2 Try.results31 _ w3 w.heap.size 26 _ _ rfl B3 Try.underlying26 rfl (by kernel_rfl)) rfl ⟨rfl, (FN.out w3 hg3).1, (FN.out w3 hg3).2⟩
end Go.Proofs.Ytbmkfjgodgmjnaa
