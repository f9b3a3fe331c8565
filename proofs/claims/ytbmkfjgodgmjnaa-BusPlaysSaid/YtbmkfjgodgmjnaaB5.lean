/- Boxes: Take, where a frame is let in. -/
import Derived.Test.YtbmkfjgodgmjnaaB4
namespace Go.Proofs.Ytbmkfjgodgmjnaa
open Go.RowKit
set_option linter.unusedVariables false
set_option linter.unusedSimpArgs false
theorem fr_one (f : Fr) : ∀ v ∈ f.cs, v.oneCell' = true := by
  intro v hv
  have := fcells_one [f] v (by simp only [fcells, List.append_nil]; exact hv)
  exact this
theorem BxP.mk {Φ : Who} {B : Nat} {w : World} {q : Nat} {a' : Bx} {v : Value} {e : Ending} {w' : World} (he : e = .returned v) (Φ' : Who) (h : BX Φ' B w' q a') (hx : Ext B (Sq q) Φ Φ' w w') : BxP Φ B w q a' v e w' := ⟨he, Φ', h, hx⟩
theorem BX.lost_ {Φ : Who} {B q : Nat} {w : World} {a : Bx} (h : BX Φ B w q a) (hN : Nu Φ w) (v : Bool) : BX Φ B (w.setCell ⟨q, 3, none⟩ (.bool v)) q { a with lost := v } ∧ Ext B (Sq q) Φ Φ w (w.setCell ⟨q, 3, none⟩ (.bool v)) := by
  obtain ⟨h1, h2, h3, A0, c0, A1, c1, A2, c2, h4, h5, h6, h7⟩ := h
  have b1 := h4.set_ 3 (.bool v)
  have hx3 : Ext B (fun c => c = (q, 0)) Φ Φ w (w.setCell ⟨q, 3, none⟩ (.bool v)) := (Ext.refl hN).set_ (g := q) (o := 3) h1 h3 h4.lt (.bool v)
  have hx : Ext B (Sq q) Φ Φ w (w.setCell ⟨q, 3, none⟩ (.bool v)) := hx3.mono (Nat.le_refl _) (fun c hc => by subst hc; exact ⟨rfl, (by decide : 0 < 3)⟩)
  exact ⟨⟨h1, ⟨h2.f8, h2.t3, h2.r4, h2.fw, h2.tw, h2.rw⟩, h3, A0, c0, A1, c1, A2, c2, b1, h5.ext hx (Sq.no9 q), h6.ext hx3 (by simp), h7.ext hx3 (by simp)⟩, hx⟩
set_option maxHeartbeats 2000000 in
theorem take_yes {Φ : Who} {B q : Nat} {w : World} {a : Bx} (h : BX Φ B w q a) (hB : B ≤ w.heap.size) (hN : Nu Φ w) (f : Fr) (hf : f.wf) (hyes : takeB a f = true) : Calls Try.prog 16 #[.pointer (some ⟨q, 0, none⟩), f.val] w (BxP Φ B w q (if a.rx.length < 4 then { a with rx := a.rx ++ [f] } else { a with lost := true }) (.bool true)) := by
  have hl8 := h.2.1.f8
  have hl4 := h.2.1.r4
  have HB := Lib.hid h
  obtain ⟨h1, -, h3, A0, c0, A1, c1, A2, c2, h4, h5, -, h7⟩ := h
  have hq := h4.lt
  have hc2 := h7.1.2.2.1
  unfold maxLen at hc2
  unfold takeB at hyes
  obtain ⟨hm, hany⟩ : f.may = true ∧ anyB a.fl f = true := by simpa using hyes
  have M := Lib.hid (fun w => may_any f w hf)
  rw [hm] at M
  have hb0 := bl1 w (.cells f.cs.toArray 26)
  have H4 := Lib.hid h4
  have H5 := Lib.hid h5
  have H7 := Lib.hid h7
  obtain ⟨n, hn⟩ : ∃ n, a.rx.length = n := ⟨_, rfl⟩
  rw [hn] at H4 H7 hl4
  have HNN := Lib.hid hn
  clear hyes hm h4 h5 h7
  obtain ⟨a', ha'⟩ : ∃ a', (if a.rx.length < 4 then ({ a with rx := a.rx ++ [f] } : Bx) else { a with lost := true }) = a' := ⟨_, rfl⟩
  rw [ha']
  rw [hn] at ha'
  have HA' := Lib.hid ha'
  clear hn ha'
  go_enter Try.func16, Try.ntmps16
  go_wp2_with fail
  refine (M.out _).mono ?_
  rintro e w1 ⟨rfl, hb⟩
  have hb1 : Below w.heap.size w w1 := hb0.trans (hb.mono (by simp))
  have hz1 := hb1.size
  have e0 : w1.cell? ⟨q, 0, none⟩ = some (.slice A0 a.fl.length c0) := ((H4.out.below hb1).cell 0).trans rfl
  have BF : Blk w1 w.heap.size 26 f.cs.toArray := (Blk.new w 26 f.cs.toArray).below hb
  have C := Lib.hid (contains_any A0 a.fl.length c0 a.fl f w.heap.size w1 rfl (by omega) ((H5.out.below hb1).rd) BF)
  rw [hany] at C
  have HBF := Lib.hid BF
  clear BF
  go_wp2_with fail
  refine C.out.mono ?_
  rintro e w2 ⟨rfl, hb2⟩
  have hb2' : Below w.heap.size w w2 := hb1.trans (hb2.mono hz1)
  have hz2 := hb2'.size
  have B2 := H4.out.below hb2'
  have bc := B2.cell
  have bf := B2.frozen
  have BF2 := HBF.out.below hb2
  have ff := BF2.cell
  have HB2 := Lib.hid (HB.out.below hb2')
  have hq2 := B2.lt
  clear C M e0 hb hb2 hb0 hb1
  by_cases h4 : n < 4
  · have h4' : (n : Int) < 4 := by omega
    have ho := H7.out.below hb2'
    have hqne : some q ≠ blkOf A2 := own_blk_ne ho.1 B2 (by decide)
    go_wp2_with fail
    go_region_law (first
      | (refine step_app _ rfl (.tmp 31) (.tmp 33) 36 rfl B 26 (.agg #[.int .u32 0, .bool false, .int .i64 0, .int .u8 0, .int .u8 0, .int .u8 0, .int .u8 0, .int .u8 0, .int .u8 0, .int .u8 0, .int .u8 0]) 11 24 Try.underlying36 info26 rfl (by decide) A2 n c2 (fcells a.rx) rfl ((ho.1.alloc _).drew) _ _ 1 1 f.cs rfl rfl ((Blk.new w2 26 f.cs.toArray).rd.drew) (fr_one f) (by unfold maxLen; omega) (by omega) (by simp; omega) ?_; intro A5 c5 w5 ho5 hg5 hbk5; have B5 := ((B2.alloc _).drew).grown hg5 hqne; have b5 : w5.cell? ⟨q, 2, none⟩ = some (.slice A2 n c2) := (B5.cell 2).trans rfl; have f5 := B5.frozen 2))
    all_goals
      have hbW : Below w.heap.size w (w2.alloc (.cells f.cs.toArray 26)).drew := hb2'.trans ((bl1d w2 _).mono hz2)
      have hNW : Nu Φ (w2.alloc (.cells f.cs.toArray 26)).drew := hN.below hbW
      have hBW := HB2.out.below (bl1d w2 (.cells f.cs.toArray 26))
      have hx5 : Ext B (fun c => c = (q, 2)) Φ Φ (w2.alloc (.cells f.cs.toArray 26)).drew w5 := (Ext.refl hNW).grown (fun g hg => ⟨(ho.1.lt hg).1, ho.2 g hg⟩) hg5
      have R := Lib.hid (hBW.rx_new hx5 (l' := a.rx ++ [f]) (by rw [fcells_app]; simp only [fcells, List.append_nil]; exact ho5) (by rw [List.length_append, HNN.out]; rfl) (by omega) (fun g hg => by
        rcases List.mem_append.1 hg with hg | hg
        · exact HB.out.2.1.rw g hg
        · simp at hg; subst hg; exact hf) (fun g hg hlt => by
        rcases hbk5 with e | e
        · exact ho.2 g (by rw [← e]; exact hg)
        · rw [e] at hg
          simp only [Option.some.injEq] at hg
          subst hg
          exact absurd hlt (Nat.lt_irrefl _)))
      have HX := Lib.hid ((Ext.of_below (B := B) (S := Sq q) hN hbW).trans R.out.2)
      clear hx5 hBW hNW hbW hg5 hbk5 ho5
      go_wp2_with fail
      go_ret
      have e := HA'.out
      rw [if_pos h4] at e
      rw [← e]
      exact BxP.mk rfl _ R.out.1 HX.out
  · have h4' : (4 : Int) ≤ n := by omega
    have R := Lib.hid (HB2.out.lost_ (hN.below hb2') true)
    have HX := Lib.hid ((Ext.of_below (B := B) (S := Sq q) hN hb2').trans R.out.2)
    go_wp2_with fail
    go_ret
    have e := HA'.out
    rw [if_neg h4] at e
    rw [← e]
    exact BxP.mk rfl _ R.out.1 HX.out
theorem take_any {Φ : Who} {B q : Nat} {w : World} {a : Bx} (h : BX Φ B w q a) (hB : B ≤ w.heap.size) (hN : Nu Φ w) (f : Fr) (hf : f.wf) : Calls Try.prog 16 #[.pointer (some ⟨q, 0, none⟩), f.val] w (BxP Φ B w q (takeX a f) (.bool (takeB a f))) := by
  cases ht : takeB a f
  · refine (take_no h f hf ht).mono ?_
    rintro e w' ⟨rfl, hb⟩
    have : takeX a f = a := by unfold takeX; rw [ht]; rfl
    rw [this]
    exact BxP.mk rfl Φ (h.below hb) (Ext.of_below hN hb)
  · have : takeX a f = (if a.rx.length < 4 then { a with rx := a.rx ++ [f] } else { a with lost := true }) := by unfold takeX; rw [ht, if_pos rfl]
    rw [this]
    exact take_yes h hB hN f hf ht
end Go.Proofs.Ytbmkfjgodgmjnaa
