/- The reference's box: its memory, New, Let. -/
import Derived.Test.YtbmkfjgodgmjnaaRA
namespace Go.Proofs.Ytbmkfjgodgmjnaa
open Go.RowKit
set_option linter.unusedVariables false
set_option linter.unusedSimpArgs false
/-- The reference's box in memory: its block is its own; its rows are never written behind their making, and nobody's. -/
def RB (Φ : Who) (B : Nat) (w : World) (r : Nat) (a : Bx) : Prop := B ≤ r ∧ a.ok ∧ Φ r = (r, 3) ∧ ∃ A0 c0 A1 c1 A2 c2,
  Blk w r 54 #[.slice A0 a.fl.length c0, .slice A1 a.tx.length c1, .slice A2 a.rx.length c2, .bool a.lost] ∧
  OwC Φ (0, 9) w B 33 3 A0 a.fl.length c0 (flcells a.fl) ∧ OwC Φ (0, 9) w B 26 11 A1 a.tx.length c1 (fcells a.tx) ∧ OwC Φ (0, 9) w B 26 11 A2 a.rx.length c2 (fcells a.rx)
/-- What a call on the reference's box at r may write. -/
def Sr (r : Nat) (c : Nat × Nat) : Prop := c = (r, 3)
theorem Sr.no9 (r : Nat) : ¬ Sr r (0, 9) := fun h => by unfold Sr at h; simp at h
theorem Sr.no8 (r : Nat) : ¬ Sr r (0, 8) := fun h => by unfold Sr at h; simp at h
theorem Sr.noq (r q j : Nat) (h : j < 3) : ¬ Sr r (q, j) := fun h => by unfold Sr at h; simp at h; omega
theorem Sq.nor (q r : Nat) : ¬ Sq q (r, 3) := fun h => by have := h.2; simp at this
theorem RB.ext {Φ Φ' : Who} {B r : Nat} {w w' : World} {a : Bx} {S : Nat × Nat → Prop} (h : RB Φ B w r a) (he : Ext B S Φ Φ' w w') (hS : ¬ S (r, 3)) (h9 : ¬ S (0, 9)) : RB Φ' B w' r a := by
  obtain ⟨h1, h2, h3, A0, c0, A1, c1, A2, c2, h4, h5, h6, h7⟩ := h
  have h0 : BlC Φ (r, 3) w r 54 _ := ⟨h4, h3⟩
  obtain ⟨k1, k2⟩ := h0.ext he hS
  exact ⟨h1, h2, k2, A0, c0, A1, c1, A2, c2, k1, h5.ext he h9, h6.ext he h9, h7.ext he h9⟩
theorem RB.below {Φ : Who} {B r : Nat} {w w' : World} {a : Bx} (h : RB Φ B w r a) (hb : Below w.heap.size w w') : RB Φ B w' r a := by
  obtain ⟨h1, h2, h3, A0, c0, A1, c1, A2, c2, h4, h5, h6, h7⟩ := h
  exact ⟨h1, h2, h3, A0, c0, A1, c1, A2, c2, h4.below hb, h5.below hb, h6.below hb, h7.below hb⟩
theorem RB.lt {Φ : Who} {B r : Nat} {w : World} {a : Bx} (h : RB Φ B w r a) : r < w.heap.size := by
  obtain ⟨h1, h2, h3, A0, c0, A1, c1, A2, c2, h4, -⟩ := h
  exact h4.lt
/-- What a call on the reference's box answers and leaves. -/
def RbP (Φ : Who) (B : Nat) (w : World) (r : Nat) (a' : Bx) (v : Value) (e : Ending) (w' : World) : Prop := e = .returned v ∧ RB Φ B w' r a' ∧ Ext B (Sr r) Φ Φ w w'
/-- What New answers. -/
def RNewP (Φ : Who) (B : Nat) (w : World) (l : List Flt) (e : Ending) (w' : World) : Prop := ∃ q Φ', e = .returned (.tuple #[.pointer (some ⟨q, 0, none⟩), .int .i64 0]) ∧ w.heap.size ≤ q ∧ RB Φ' B w' q ⟨l, [], [], false⟩ ∧ Ext B (fun _ => False) Φ Φ' w w'
theorem rnew_no (A : Option Addr) (n c : Nat) (w : World) (hn : 8 < n) (hl : n ≤ maxLen) : Calls Try.prog 26 #[.slice A n c] w fun e w' => e = .returned (.tuple #[.pointer none, .int .i64 3]) ∧ w = w' := by
  unfold maxLen at hl
  have hn' : (8 : Int) < n := by omega
  go_enter Try.func26, Try.ntmps26
  go_wp2_with fail
  go_ret2
  exact ⟨rfl, rfl⟩
theorem rnew_yes (Φ : Who) (B : Nat) (A : Option Addr) (n c : Nat) (l : List Flt) (w : World) (hB : B ≤ w.heap.size) (hN : Nu Φ w) (hx : l.length = n) (hr : Rd w w.heap.size A (flcells l)) (hl : n ≤ 8) (hwf : ∀ x ∈ l, x.wf) :
    Calls Try.prog 26 #[.slice A n c] w (RNewP Φ B w l) := by
  have hn' : (n : Int) ≤ 8 := by omega
  have hbel := (Below.refl w.heap.size w).alloc (Nat.le_refl _) (.cells #[] 33)
  have hr' := hr.al (.cells #[] 33)
  have HX := Lib.hid hx
  have hl' : (flcells l).length = n * 3 := by rw [flcells_len, hx]
  clear hr hx
  go_enter Try.func26, Try.ntmps26
  go_wp2_with (at_builtin; refine wpList_app _ rfl (.tmp 7) (.tmp 8) 22 rfl w.heap.size 33 (.agg #[.int .u32 0, .int .u32 0, .bool false]) 3 12 Try.underlying22 info33 rfl (by decide) _ 0 0 [] rfl (fr33 w) _ _ n c _ rfl hl' hr' (flcells_one _) (by unfold maxLen; omega) (by omega) (by simp) ?_; intro A1 c1 w1 ho hg hbk)
  have hb : Below w.heap.size w w1 := bel_app hbel (fr33 w) (Nat.le_refl _) hg
  have hz := hb.size
  rw [Nat.zero_add, List.nil_append] at ho
  go_ret2
  refine ⟨w1.heap.size, paint Φ (some ⟨w1.heap.size, 0, none⟩) (w1.heap.size, 3), by simp, hz, ⟨Nat.le_trans hB hz, ⟨by rw [HX.out]; exact hl, by simp, by simp, hwf, (fun f h => by cases h), (fun f h => by cases h)⟩, paint_at rfl, A1, c1, none, 0, none, 0, ?_, ?_, OwC.nil _ _ _ _ _ _, OwC.nil _ _ _ _ _ _⟩, ?_⟩
  · show Blk _ _ 54 #[.slice A1 l.length c1, _, _, _]
    rw [HX.out]
    simp only [Nat.zero_add]
    exact Blk.new _ _ _
  · rw [HX.out]
    have h1 : OwC Φ (0, 9) w1 w.heap.size 33 3 A1 n c1 (flcells l) := OwC.fresh ho hN fun g hg => (ho.lt hg).1
    have h2 := h1.below (bl1 w1 (.cells #[.slice A1 n c1, .slice none 0 0, .slice none 0 0, .bool false] 54))
    have h3 : OwC Φ (0, 9) _ B 33 3 A1 n c1 (flcells l) := ⟨h2.1.more hB, h2.2⟩
    simp only [Nat.zero_add]
    refine h3.paint fun g hg hg2 => ?_
    have := (ho.lt hg2).2
    simp [blkOf] at hg
    omega
  · refine ((Ext.of_below hN hb).alloc _).paint fun g hg => ?_
    simp [blkOf] at hg
    subst hg
    exact ⟨by simp, fun h => by omega⟩
theorem flt_rule {W : World} {B g o n c : Nat} {l : List Flt} (h : Own W B 33 3 (some ⟨g, o, none⟩) n c (flcells l)) (k : Nat) (f : Flt) (hk : l[k]? = some f) : ∀ j u, f.cs[j]? = some u → ∀ w', Below W.heap.size W w' → w'.cell? ⟨g, o + k * 3 + j, none⟩ = some u := fun j u hu w' hb => by
  have := (h.below hb).cells _ u (flcells_get l k f hk j u hu)
  rw [← Nat.add_assoc] at this
  exact this
theorem letsB_same (x : Flt) (f : Fr) : letsB x f = (x.ext == f.ext && sameB x.mask x.id f.id) := rfl
set_option maxHeartbeats 1000000 in
theorem rlet_any {Φ : Who} {B r : Nat} {w : World} {a : Bx} (h : RB Φ B w r a) (f : Fr) (hf : f.wf) : Calls Try.prog 53 #[.pointer (some ⟨r, 0, none⟩), f.val] w fun e w' => e = .returned (.bool (takeB a f)) ∧ Below w.heap.size w w' := by
  have hfw := h.2.1.fw
  have hl8 := h.2.1.f8
  obtain ⟨-, -, -, A0, c0, A1, c1, A2, c2, h4, ⟨h5, -⟩, -⟩ := h
  have hr0 := h4.lt
  have M := Lib.hid (fun w => refmay_any f w hf)
  have hid : 0 ≤ f.id ∧ f.id < 4294967296 := ⟨hf.1, hf.2.1⟩
  obtain ⟨bm, hbm⟩ : ∃ bm, f.may = bm := ⟨_, rfl⟩
  rw [hbm] at M
  obtain ⟨n, hn⟩ : ∃ n, a.fl.length = n := ⟨_, rfl⟩
  rw [hn] at hl8 h4 h5
  have hl8' : (n : Int) ≤ 8 := by omega
  have HN := Lib.hid hn
  obtain ⟨T, hT⟩ : ∃ T, takeB a f = T := ⟨_, rfl⟩
  have HY : Hid (∀ (k : Nat) (t : Flt), a.fl[k]? = some t → bm = true → letsB t f = true → T = true) := Lib.hid fun k t h1 h2 h3 => by
    rw [← hT]
    unfold takeB
    rw [hbm, h2, any_at _ f k t h1 h3]
    rfl
  have HZ : Hid ((∀ (k : Nat) (t : Flt), a.fl[k]? = some t → (bm && letsB t f) = false) → T = false) := Lib.hid fun h1 => by
    rw [← hT]
    unfold takeB
    rw [hbm]
    cases hb : bm
    · rfl
    · rw [any_no _ f fun k t ht => by have := h1 k t ht; rw [hb] at this; simpa using this]
      rfl
  rw [hT]
  clear hn hT hbm
  have rfc := h4.rule
  have H5 := Lib.hid h5
  have H4 := Lib.hid h4
  clear h4 h5
  go_enter Try.func53, Try.ntmps53
  go_upto_region 1 with fail
  refine wp_named fun W hW => ?_
  obtain ⟨BW, hbW⟩ := blk1 (c1 := f.cs.toArray) hW
  clear hW
  have hzW := hbW.size
  have bwr := BW.rule
  have rfW := (H4.out.below hbW).rule
  clear rfc
  go_wp2_with fail
  go_loopw [5] (fun iv wr => ∃ k : Nat, k ≤ n ∧ iv = .int .i64 k ∧ Below W.heap.size W wr ∧ Hid (∀ j t, j < k → a.fl[j]? = some t → (bm && letsB t f) = false)) (fun iv _ => n - (intOf iv).toNat)
  case atStart => exact ⟨0, Nat.zero_le _, rfl, Below.refl _ _, Lib.hid fun j t hj => by omega⟩
  case round =>
    obtain ⟨k, hk, rfl, hbr, HJ⟩ := hrel
    have hzr := hbr.size
    have rfr := fun i => rfW wr hbr i
    by_cases hlt : k < n
    · have hlt' : (k : Int) < n := by omega
      obtain ⟨t, ht⟩ : ∃ t, a.fl[k]? = some t := ⟨_, List.getElem?_eq_getElem (by rw [HN.out]; exact hlt)⟩
      have htw := hfw t (List.mem_of_getElem? ht)
      obtain ⟨g3, o3, hA3⟩ := H5.out.at_ (by omega)
      subst hA3
      have rr := flt_rule H5.out k t ht
      have bw2 := hbW.trans (hbr.mono hzW)
      have r0 := rr 0 _ rfl wr bw2
      have r1 := rr 1 _ rfl wr bw2
      have r2 := rr 2 _ rfl wr bw2
      rw [Nat.add_zero] at r0
      have HTT := Lib.hid ht
      have HJ2 : Hid ((bm && letsB t f) = false → ∀ j t, j < k + 1 → a.fl[j]? = some t → (bm && letsB t f) = false) := Lib.hid fun h1 j t' hj ht' => by
        rcases Nat.lt_or_ge j k with h2 | h2
        · exact HJ.out j t' h2 ht'
        · obtain rfl : j = k := by omega
          rw [HTT.out] at ht'
          cases ht'
          exact h1
      obtain ⟨s, hs⟩ : ∃ s, sameB t.mask t.id f.id = s := ⟨_, rfl⟩
      obtain ⟨x, hx⟩ : ∃ x, (t.ext == f.ext) = x := ⟨_, rfl⟩
      have HL : Hid (letsB t f = (x && s)) := Lib.hid (by rw [letsB_same, hs, hx])
      have SM := Lib.hid (fun w => same_any t.mask t.id f.id htw.1 htw.2.1 htw.2.2.1 htw.2.2.2 hid.1 hid.2 w)
      rw [hs] at SM
      clear rr hs ht
      go_upto_region 5 with fail
      refine wp_named fun W1 hW1 => ?_
      obtain ⟨BT, hbT⟩ := blk1 (c1 := t.cs.toArray) hW1
      have hb1 := hbr.trans (hbT.mono hzr)
      clear hW1 r0 r1 r2 rfr
      have hz1 := hb1.size
      have RT := BT.rule
      have bw1 := fun i => bwr W1 hb1 i
      have rt1 := BT.cell
      cases bm
      · go_wp2_with fail
        refine (M.out _).mono ?_
        rintro e w2 ⟨rfl, b2⟩
        go_wp2_with fail
        go_roundw
        case rel => exact ⟨k + 1, by omega, rfl, hb1.trans (b2.mono hz1), Lib.hid (HJ2.out rfl)⟩
        case measure => simp [intOf]; omega
      · cases x
        · go_wp2_with fail
          refine (M.out _).mono ?_
          rintro e w2 ⟨rfl, b2⟩
          have bw2' := fun i => bwr w2 (hb1.trans (b2.mono hz1)) i
          have rt2 := fun i => RT w2 b2 i
          go_wp2_with fail
          go_roundw
          case rel => exact ⟨k + 1, by omega, rfl, hb1.trans (b2.mono hz1), Lib.hid (HJ2.out (by rw [HL.out]; rfl))⟩
          case measure => simp [intOf]; omega
        · go_wp2_with fail
          refine (M.out _).mono ?_
          rintro e w2 ⟨rfl, b2⟩
          have bw2' := fun i => bwr w2 (hb1.trans (b2.mono hz1)) i
          have rt2 := fun i => RT w2 b2 i
          go_wp2_with fail
          refine (SM.out _).mono ?_
          rintro e w3 ⟨rfl, b3⟩
          have hb3 := hb1.trans ((bel2 b2 b3).mono hz1)
          cases s
          · go_wp2_with fail
            go_roundw
            case rel => exact ⟨k + 1, by omega, rfl, hb3, Lib.hid (HJ2.out (by rw [HL.out]; rfl))⟩
            case measure => simp [intOf]; omega
          · go_wp2_with fail
            go_ret
            exact ⟨by have hh := HY.out k t HTT.out (by simp) (by rw [HL.out]; rfl); simp [hh], hbW.trans (hb3.mono hzW)⟩
    · obtain rfl : k = n := by omega
      go_wp2_with fail
      go_ret
      exact ⟨by rw [HZ.out fun j t ht => HJ.out j t (by have := (List.getElem?_eq_some_iff.1 ht).1; rw [HN.out] at this; exact this) ht]; rfl, hbW.trans (hbr.mono hzW)⟩
end Go.Proofs.Ytbmkfjgodgmjnaa
