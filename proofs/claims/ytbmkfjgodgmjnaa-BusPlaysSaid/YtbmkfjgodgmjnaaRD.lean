/- The reference's box: Send. -/
import Derived.Test.YtbmkfjgodgmjnaaRC
import Derived.Test.YtbmkfjgodgmjnaaGrow
namespace Go.Proofs.Ytbmkfjgodgmjnaa
open Go.RowKit
set_option linter.unusedVariables false
set_option linter.unusedSimpArgs false
section
variable {Φ : Who} {B r : Nat} {w w9 : World} {a : Bx}
theorem rb_far {k e size n c j : Nat} {A : Option Addr} {xs : List Value} {v : Value} (h3 : Φ r = (r, 3)) (ho : OwC Φ (0, 9) w B e size A n c xs) : OwC Φ (0, 9) (w.setCell ⟨r, j, none⟩ v) B e size A n c xs :=
  ⟨ho.1.far (fun e => by have := ho.2 _ e; rw [h3] at this; simp at this) _, ho.2⟩
/-- The rows of those that wait, new. -/
theorem RB.tx_new (h : RB Φ B w r a) (hB : B ≤ w.heap.size) (hN : Nu Φ w) (hb : Below w.heap.size w w9) {A : Option Addr} {n c : Nat} {l : List Fr} (ho : Own w9 w.heap.size 26 11 A n c (fcells l)) (hl : l.length = n) (h3 : n ≤ 3) (hw : ∀ f ∈ l, f.wf) :
    RB Φ B (w9.setCell ⟨r, 1, none⟩ (.slice A n c)) r { a with tx := l } ∧ Ext B (Sr r) Φ Φ w (w9.setCell ⟨r, 1, none⟩ (.slice A n c)) := by
  have hr0 := h.lt
  obtain ⟨hBr, hok, hΦ, A0, c0, A1, c1, A2, c2, h4, h5, h6, h7⟩ := h.below hb
  have b1 := h4.set_ 1 (.slice A n c)
  have h9 : OwC Φ (0, 9) w9 B 26 11 A n c (fcells l) := ⟨ho.more hB, fun g hg => hN g (ho.lt hg).1⟩
  subst hl
  exact ⟨⟨hBr, ⟨hok.f8, h3, hok.r4, hok.fw, hw, hok.rw⟩, hΦ, A0, c0, A, c, A2, c2, b1, rb_far (k := 0) hΦ h5, rb_far (k := 0) hΦ h9, rb_far (k := 0) hΦ h7⟩,
    (Ext.of_below hN hb).set_ (g := r) (o := 1) hBr (by rw [hΦ]; rfl) (by have := hb.size; omega) _⟩
/-- The rows of those that were taken, new. -/
theorem RB.rx_new (h : RB Φ B w r a) (hB : B ≤ w.heap.size) (hN : Nu Φ w) (hb : Below w.heap.size w w9) {A : Option Addr} {n c : Nat} {l : List Fr} (ho : Own w9 w.heap.size 26 11 A n c (fcells l)) (hl : l.length = n) (h4 : n ≤ 4) (hw : ∀ f ∈ l, f.wf) :
    RB Φ B (w9.setCell ⟨r, 2, none⟩ (.slice A n c)) r { a with rx := l } ∧ Ext B (Sr r) Φ Φ w (w9.setCell ⟨r, 2, none⟩ (.slice A n c)) := by
  have hr0 := h.lt
  obtain ⟨hBr, hok, hΦ, A0, c0, A1, c1, A2, c2, k4, h5, h6, h7⟩ := h.below hb
  have b1 := k4.set_ 2 (.slice A n c)
  have h9 : OwC Φ (0, 9) w9 B 26 11 A n c (fcells l) := ⟨ho.more hB, fun g hg => hN g (ho.lt hg).1⟩
  subst hl
  exact ⟨⟨hBr, ⟨hok.f8, hok.t3, h4, hok.fw, hok.tw, hw⟩, hΦ, A0, c0, A1, c1, A, c, b1, rb_far (k := 0) hΦ h5, rb_far (k := 0) hΦ h6, rb_far (k := 0) hΦ h9⟩,
    (Ext.of_below hN hb).set_ (g := r) (o := 2) hBr (by rw [hΦ]; rfl) (by have := hb.size; omega) _⟩
theorem RB.lost_new (h : RB Φ B w r a) (hN : Nu Φ w) (hb : Below w.heap.size w w9) (v : Bool) :
    RB Φ B (w9.setCell ⟨r, 3, none⟩ (.bool v)) r { a with lost := v } ∧ Ext B (Sr r) Φ Φ w (w9.setCell ⟨r, 3, none⟩ (.bool v)) := by
  have hr0 := h.lt
  obtain ⟨hBr, hok, hΦ, A0, c0, A1, c1, A2, c2, k4, h5, h6, h7⟩ := h.below hb
  have b1 := k4.set_ 3 (.bool v)
  exact ⟨⟨hBr, ⟨hok.f8, hok.t3, hok.r4, hok.fw, hok.tw, hok.rw⟩, hΦ, A0, c0, A1, c1, A2, c2, b1, rb_far (k := 0) hΦ h5, rb_far (k := 0) hΦ h6, rb_far (k := 0) hΦ h7⟩,
    (Ext.of_below hN hb).set_ (g := r) (o := 3) hBr (by rw [hΦ]; rfl) (by have := hb.size; omega) _⟩
end
/-- What the reference's Send leaves. -/
def rsendX (a : Bx) (f : Fr) : Bx := if sendE a f = 0 then { a with tx := a.tx ++ [f] } else a
set_option maxHeartbeats 1000000 in
theorem rsend_yes {Φ : Who} {B r : Nat} {w : World} {a : Bx} (h : RB Φ B w r a) (hB : B ≤ w.heap.size) (hN : Nu Φ w) (f : Fr) (hf : f.wf) (hm : f.may = true) (h3 : a.tx.length < 3) : Calls Try.prog 28 #[.pointer (some ⟨r, 0, none⟩), f.val] w (RbP Φ B w r { a with tx := a.tx ++ [f] } (.int .i64 0)) := by
  have M := Lib.hid (fun w => refmay_any f w hf)
  rw [hm] at M
  have HB := Lib.hid h
  obtain ⟨hBr, hok, hΦ, A0, c0, A1, c1, A2, c2, h4, h5, h6, h7⟩ := h
  obtain ⟨m, hmm⟩ : ∃ m, a.tx.length = m := ⟨_, rfl⟩
  rw [hmm] at h3 h6 h4
  have h3' : (m : Int) < 3 := by omega
  have hm3 := Lib.hid hmm
  have H4 := Lib.hid h4
  have H6 := Lib.hid h6
  have hc1 := h6.1.2.2.1
  unfold maxLen at hc1
  have hc2 := h6.1.2.1
  have hr0 := h4.lt
  clear hmm h4 h5 h6 h7
  go_enter Try.func28, Try.ntmps28
  go_upto_region 1 with fail
  refine wp_named fun W hW => ?_
  obtain ⟨BW, hbW⟩ := blk1 (c1 := f.cs.toArray) hW
  clear hW
  have bw := BW.cell
  go_wp2_with fail
  refine (M.out _).mono ?_
  rintro e w1 ⟨rfl, b1⟩
  have hb1 := hbW.trans (b1.mono hbW.size)
  have rf1 := (H4.out.below hb1).cell
  have hz1 := hb1.size
  clear bw
  go_wp2_with fail
  have RF := (H4.out.below hb1).rule
  have RP := (BW.below b1).rule
  have HL : Hid ((fcells a.tx).length = m * 11) := Lib.hid (by rw [fcells_len, hm3.out])
  have HR : Hid (∀ w', Below w1.heap.size w1 w' → Rd w' w1.heap.size A1 (fcells a.tx)) := Lib.hid fun w' hb => (H6.out.1.below hb1).rd.below hb
  clear rf1
  refine wp_region_any (by kernel_rfl) ?_
  refine wpAny_take (i := 0) (oi := _) (v := ?_) rfl (by kernel_rfl) (by kernel_rfl) (by kernel_rfl) (fun _ _ _ h => h) (Or.inl ⟨by rfl, ?_⟩) ?_
  rotate_left
  · intro w'
    go_simp
    first | done | with_reducible rfl
  try simp only [Act.put, List.setIfInBounds_toArray, List.set_cons_zero, List.set_cons_succ, List.getElem_toArray, List.getElem_cons_zero, List.getElem_cons_succ]
  refine wpAny_g (fun w' => Below w1.heap.size w1 w') Bel (mkG [(1, gEmpty w1.heap.size 26 11), (6, gRow w1.heap.size 26 11 m (fcells a.tx)), (8, gLit w1.heap.size 26 1 f.cs.toArray)]) [9, 10, 11, 12] [0] (by kernel_rfl) (by kernel_rfl) (by kernel_rfl) (stays_mk _ _) (Below.refl _ _).drew ?_
  refine wpH_gone (by rfl) ?_
  refine wpH_grow (by rfl) rfl (by rfl) (fun w' hS hF K hK => ?_) (fun g1 => ?_)
  · go_simp
    exact hK (none, w'.heap.size) _ ((Below.refl _ _).alloc (Nat.le_refl _) _) ((fr26 w').more hS.size)
  obtain ⟨Ag1, cg1⟩ := g1
  try dsimp only [gVal, gEmpty, gRow, gLit, gPtr]
  try simp only [Act.put, List.setIfInBounds_toArray, List.set_cons_zero, List.set_cons_succ, Nat.reduceAdd]
  first
    | (refine wpH_skip (by rfl) (by rfl) ?_; try simp only [Act.put, List.setIfInBounds_toArray, List.set_cons_zero, List.set_cons_succ, Nat.reduceAdd])
    | (refine wpH_val (v := ?_) (by rfl) (by rfl) ?_ ?_; rotate_left; · (intro w' hS hF; go_simp; first | done | with_reducible rfl)
       try simp only [Act.put, List.setIfInBounds_toArray, List.set_cons_zero, List.set_cons_succ, Nat.reduceAdd])
  first
    | (refine wpH_skip (by rfl) (by rfl) ?_; try simp only [Act.put, List.setIfInBounds_toArray, List.set_cons_zero, List.set_cons_succ, Nat.reduceAdd])
    | (refine wpH_val (v := ?_) (by rfl) (by rfl) ?_ ?_; rotate_left; · (intro w' hS hF; go_simp; first | done | with_reducible rfl)
       try simp only [Act.put, List.setIfInBounds_toArray, List.set_cons_zero, List.set_cons_succ, Nat.reduceAdd])
  first
    | (refine wpH_skip (by rfl) (by rfl) ?_; try simp only [Act.put, List.setIfInBounds_toArray, List.set_cons_zero, List.set_cons_succ, Nat.reduceAdd])
    | (refine wpH_val (v := ?_) (by rfl) (by rfl) ?_ ?_; rotate_left; · (intro w' hS hF; go_simp; first | done | with_reducible rfl)
       try simp only [Act.put, List.setIfInBounds_toArray, List.set_cons_zero, List.set_cons_succ, Nat.reduceAdd])
  first
    | (refine wpH_skip (by rfl) (by rfl) ?_; try simp only [Act.put, List.setIfInBounds_toArray, List.set_cons_zero, List.set_cons_succ, Nat.reduceAdd])
    | (refine wpH_val (v := ?_) (by rfl) (by rfl) ?_ ?_; rotate_left; · (intro w' hS hF; go_simp; first | done | with_reducible rfl)
       try simp only [Act.put, List.setIfInBounds_toArray, List.set_cons_zero, List.set_cons_succ, Nat.reduceAdd])
  refine wpH_grow (by rfl) rfl (by rfl) (fun w' hS hF K hK => ?_) (fun g6 => ?_)
  · have f1 : Own w' w1.heap.size 26 11 _ 0 0 [] := hF _ _ (.head _) (needs_of (by kernel_rfl))
    refine wp_app0 w' (.tmp 15) (.tmp 19) 36 rfl w1.heap.size 26 z26 11 24 Try.underlying36 info26 rfl (by decide) _ rfl f1 _ _ m c1 _ rfl HL.out (HR.out w' hS) (fcells_one _) (by unfold maxLen; omega) (by omega) hS.size ?_
    intro A5 c5 w5 ho5 hb5
    exact hK (A5, c5) w5 hb5 ho5
  obtain ⟨Ag6, cg6⟩ := g6
  try dsimp only [gVal, gEmpty, gRow, gLit, gPtr]
  try simp only [Act.put, List.setIfInBounds_toArray, List.set_cons_zero, List.set_cons_succ, Nat.reduceAdd]
  first
    | (refine wpH_skip (by rfl) (by rfl) ?_; try simp only [Act.put, List.setIfInBounds_toArray, List.set_cons_zero, List.set_cons_succ, Nat.reduceAdd])
    | (refine wpH_val (v := ?_) (by rfl) (by rfl) ?_ ?_; rotate_left; · (intro w' hS hF; go_simp; first | done | with_reducible rfl)
       try simp only [Act.put, List.setIfInBounds_toArray, List.set_cons_zero, List.set_cons_succ, Nat.reduceAdd])
  refine wpH_grow (by rfl) rfl (by rfl) (fun w' hS hF K hK => ?_) (fun g8 => ?_)
  · go_simp
    exact hK (none, w'.heap.size) _ ((Below.refl _ _).alloc (Nat.le_refl _) _) ⟨hS.size, Blk.new _ _ _⟩
  obtain ⟨Ag8, cg8⟩ := g8
  try dsimp only [gVal, gEmpty, gRow, gLit, gPtr]
  try simp only [Act.put, List.setIfInBounds_toArray, List.set_cons_zero, List.set_cons_succ, Nat.reduceAdd]
  refine wpH_tail (by rfl) ?_
  refine wpH_tail (by rfl) ?_
  refine wpH_tail (by rfl) ?_
  refine wpH_tail (by rfl) ?_
  refine wpH_done (fun w8 hS hF => ?_)
  have f8 := hF _ _ (.head _)
  have f6 := hF _ _ (.tail _ (.head _))
  have f1 := hF _ _ (.tail _ (.tail _ (.head _)))
  try dsimp only [gVal, gEmpty, gRow, gLit, gPtr] at f1 f6 f8
  clear hF
  simp only [List.filterMap_cons, List.filterMap_nil, List.getElem?_toArray, List.getElem?_cons_succ, List.getElem?_cons_zero]
  refine wpList_app _ rfl (.tmp 20) (.tmp 22) 36 rfl w1.heap.size 26 z26 11 24 Try.underlying36 info26 rfl (by decide) _ _ _ _ rfl f6 _ _ 1 1 f.cs rfl rfl (f8.2.rd) (fr_one f) (by unfold maxLen; omega) (by omega) hS.size ?_
  intro A9 c9 w9 ho9 hg9 hbk9
  have hb9 : Below w1.heap.size w1 w9 := bel_app hS f6 (Nat.le_refl _) hg9
  have hbw : Below w.heap.size w w9 := hb1.trans (hb9.mono hz1)
  have rf9 := (H4.out.below hbw).cell
  have ff9 := (H4.out.below hbw).frozen
  have HX := Lib.hid (HB.out.tx_new hB hN hbw (A := A9) (n := m + 1) (c := c9) (l := a.tx ++ [f]) (by
    rw [fcells_app]
    simp only [fcells, List.append_nil]
    exact ho9.more hz1) (by rw [List.length_append, hm3.out]; rfl) (by omega) (fun x hx => by
    rcases List.mem_append.1 hx with h | h
    · exact HB.out.2.1.tw x h
    · rw [List.mem_singleton.1 h]; exact hf))
  clear RF RP f1 f6 f8
  go_wp2_with fail
  go_ret
  exact ⟨rfl, HX.out.1, HX.out.2⟩
theorem rsend_any {Φ : Who} {B r : Nat} {w : World} {a : Bx} (h : RB Φ B w r a) (hB : B ≤ w.heap.size) (hN : Nu Φ w) (f : Fr) (hf : f.wf) : Calls Try.prog 28 #[.pointer (some ⟨r, 0, none⟩), f.val] w (RbP Φ B w r (rsendX a f) (.int .i64 (sendE a f))) := by
  have stay : ∀ E : Int, E ≠ 0 → sendE a f = E → (Calls Try.prog 28 #[.pointer (some ⟨r, 0, none⟩), f.val] w fun e w' => e = .returned (.int .i64 E) ∧ Below w.heap.size w w') → Calls Try.prog 28 #[.pointer (some ⟨r, 0, none⟩), f.val] w (RbP Φ B w r (rsendX a f) (.int .i64 (sendE a f))) := fun E h0 hE hc => by
    refine hc.mono ?_
    rintro e w' ⟨rfl, hb⟩
    have hX : rsendX a f = a := by unfold rsendX; rw [hE, if_neg h0]
    rw [hX, hE]
    exact ⟨rfl, h.below hb, Ext.of_below hN hb⟩
  have M := Lib.hid (fun w => refmay_any f w hf)
  have h4 := h.2.2.2
  have ht3 := h.2.1.t3
  obtain ⟨A0, c0, A1, c1, A2, c2, h4, -⟩ := h4
  cases hm : f.may with
  | false =>
    rw [hm] at M
    refine stay 1 (by decide) (by unfold sendE; rw [if_pos hm]) ?_
    clear stay h4
    go_enter Try.func28, Try.ntmps28
    go_upto_region 1 with fail
    refine wp_named fun W hW => ?_
    obtain ⟨BW, hbW⟩ := blk1 (c1 := f.cs.toArray) hW
    clear hW
    have bw := BW.cell
    go_wp2_with fail
    refine (M.out _).mono ?_
    rintro e w1 ⟨rfl, b1⟩
    go_wp2_with fail
    go_ret
    exact ⟨rfl, hbW.trans (b1.mono hbW.size)⟩
  | true =>
    rcases Nat.lt_or_ge a.tx.length 3 with h3 | h3
    · have hE : sendE a f = 0 := by unfold sendE; rw [hm, if_neg (by decide), if_neg (by omega)]
      have hX : rsendX a f = { a with tx := a.tx ++ [f] } := by unfold rsendX; rw [hE, if_pos rfl]
      rw [hE, hX]
      exact rsend_yes h hB hN f hf hm h3
    · rw [hm] at M
      refine stay 20 (by decide) (by unfold sendE; rw [hm, if_neg (by decide), if_pos h3]) ?_
      obtain ⟨m, hmm⟩ : ∃ m, a.tx.length = m := ⟨_, rfl⟩
      rw [hmm] at h4 h3
      have h3' : (3 : Int) ≤ m := by omega
      have H4 := Lib.hid h4
      clear stay h4 hmm
      go_enter Try.func28, Try.ntmps28
      go_upto_region 1 with fail
      refine wp_named fun W hW => ?_
      obtain ⟨BW, hbW⟩ := blk1 (c1 := f.cs.toArray) hW
      clear hW
      have bw := BW.cell
      go_wp2_with fail
      refine (M.out _).mono ?_
      rintro e w1 ⟨rfl, b1⟩
      have hb1 := hbW.trans (b1.mono hbW.size)
      have rf1 := (H4.out.below hb1).cell
      go_wp2_with fail
      go_ret
      exact ⟨rfl, hb1⟩
end Go.Proofs.Ytbmkfjgodgmjnaa
