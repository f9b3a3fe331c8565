/- fire.Event: which lists are done. -/
import Derived.Test.YteecgdbicokgoaaA3
namespace Go.Proofs.Yteecgdbicokgoaa
open Go.RowKit
set_option linter.unusedVariables false
set_option linter.unusedSimpArgs false
set_option maxRecDepth 100000
/-- Fire's counts. -/
def FAt (w : World) (f : Nat) : Prop := ∃ z0 z1 z2 z3 : Int, Blk w f 130 #[.int .i64 z0, .int .i64 z1, .int .i64 z2, .int .i64 z3]
theorem FAt.get {w : World} {f : Nat} (h : FAt w f) {i : Nat} (hi : i < 4) : ∃ z : Int, w.cell? ⟨f, i, none⟩ = some (.int .i64 z) := by
  obtain ⟨z0, z1, z2, z3, hB⟩ := h
  rcases (by omega : i = 0 ∨ i = 1 ∨ i = 2 ∨ i = 3) with rfl | rfl | rfl | rfl
  · exact ⟨z0, (hB.cell 0).trans rfl⟩
  · exact ⟨z1, (hB.cell 1).trans rfl⟩
  · exact ⟨z2, (hB.cell 2).trans rfl⟩
  · exact ⟨z3, (hB.cell 3).trans rfl⟩
theorem FAt.set_ {w : World} {f : Nat} (h : FAt w f) {i : Nat} (hi : i < 4) (v : Int) : FAt (w.setCell ⟨f, i, none⟩ (.int .i64 v)) f := by
  obtain ⟨z0, z1, z2, z3, hB⟩ := h
  have hs := hB.set_ i (.int .i64 v)
  rcases (by omega : i = 0 ∨ i = 1 ∨ i = 2 ∨ i = 3) with rfl | rfl | rfl | rfl
  · exact ⟨v, z1, z2, z3, hs⟩
  · exact ⟨z0, v, z2, z3, hs⟩
  · exact ⟨z0, z1, v, z3, hs⟩
  · exact ⟨z0, z1, z2, v, hs⟩
theorem FAt.fr {w : World} {f : Nat} (h : FAt w f) : ∀ i, w.frozen? ⟨f, i, none⟩ = false := by
  obtain ⟨z0, z1, z2, z3, hB⟩ := h
  exact hB.frozen
theorem FAt.below {w w' : World} {f : Nat} (h : FAt w f) (hb : Below w.heap.size w w') : FAt w' f := by
  obtain ⟨z0, z1, z2, z3, hB⟩ := h
  exact ⟨z0, z1, z2, z3, hB.below hb⟩
theorem FAt.lt {w : World} {f : Nat} (h : FAt w f) : f < w.heap.size := by
  obtain ⟨z0, z1, z2, z3, hB⟩ := h
  exact hB.lt
theorem info3 : (Try.prog.info? 3).map (fun i => (i.zero, i.size, i.bytes)) = some (some (.int .i64 0), 1, 8) := by kernel_rfl
def EventP (w : World) (f n : Nat) (e : Ending) (w' : World) : Prop := ∃ A c ks, e = .returned (.slice A ks.length c) ∧ Own w' w.heap.size 3 1 A ks.length c (ints ks) ∧ (∀ k ∈ ks, k < n) ∧ ks.length ≤ 4 ∧ FAt w' f ∧ Chg (fun i => i = f) w w'
set_option maxHeartbeats 8000000 in
theorem event_any {w : World} {f n c : Nat} {A : Option Addr} {cl : List Lc} (hF : FAt w f) (hl : cl.length = n) (hn : n ≤ 4) (hr : Rd w w.heap.size A (lcells cl)) (hAf : ∀ g, blkOf A = some g → g ≠ f) (hAw : ∀ g, blkOf A = some g → g < w.heap.size) (ev : Int) :
    Calls Try.prog 24 #[.pointer (some ⟨f, 0, none⟩), .int .u8 ev, .slice A n c] w (EventP w f n) := by
  have hb0 := bl1 w (.cells #[.slice A n c] 51)
  have HB := Lib.hid (And.intro (Blk.new w 51 #[.slice A n c]) hb0)
  have HR := Lib.hid (And.intro hl (And.intro (hr.bel hb0) hAf))
  have HF0 := Lib.hid (hF.below hb0)
  have hfl := hF.lt
  clear hF hb0 hl hr hAf
  go_enter Try.func24, Try.ntmps24
  go_wp2_with fail
  go_loopw [7, 11] (fun out iv wr => ∃ (i : Nat) (A2 : Option Addr) (c2 : Nat) (ks : List Nat), i ≤ 4 ∧ iv = .int .i64 i ∧ out = .slice A2 ks.length c2 ∧ Own wr (w.heap.size + 1) 3 1 A2 ks.length c2 (ints ks) ∧ (∀ k ∈ ks, k < n) ∧ ks.length ≤ i ∧ FAt wr f ∧ Chg (fun i => i = f) (w.alloc (.cells #[.slice A n c] 51)) wr) (fun _ iv _ => 4 - (intOf iv).toNat)
  case atStart => exact ⟨0, none, 0, [], by omega, rfl, rfl, Own.nil _ _ _ _, (fun k hk => by cases hk), Nat.zero_le _, HF0.out, Chg.refl _ _⟩
  case round =>
    obtain ⟨i, A2, c2, ks, hi, rfl, rfl, hO, hk, hkl, hF, hC⟩ := hrel
    by_cases hlt : i < 4
    · have hltI : (i : Int) < 4 := by omega
      obtain ⟨z, hz⟩ := hF.get hlt
      have hfr := hF.fr
      have hq : Blk wr w.heap.size 51 #[.slice A n c] := HB.out.1.chg hC (by omega)
      have cq := hq.cell
      have hrd : Rd wr wr.heap.size A (lcells cl) := (HR.out.2.1.chg (Nat.le_refl _) hC (fun g hg e => HR.out.2.2 g hg e)).more hC.size
      have H0 := Lib.hid (fun v => And.intro (hF.set_ hlt v) (hC.at_ (q := f) (Eq.refl f) i (.int .i64 v)))
      have hne : ∀ g, blkOf A2 = some g → g ≠ f := fun g hg => by have := (hO.lt hg).1; omega
      have HO := Lib.hid (And.intro hO (And.intro hk (And.intro hkl (And.intro hF (And.intro hC hne)))))
      clear hO hk hkl hF hC hne
      by_cases hin : i < n
      · have hinI : (i : Int) < n := by omega
        have hind : decide ((n : Int) ≤ i) = false := decide_eq_false (by omega)
        obtain ⟨x, hx⟩ : ∃ x, cl[i]? = some x := ⟨_, List.getElem?_eq_getElem (by rw [HR.out.1]; exact hin)⟩
        obtain ⟨g, o, rfl, -, hc⟩ := hrd (by
          intro e
          have h1 := lcells_len cl
          rw [e, HR.out.1] at h1
          simp at h1
          omega)
        have c3 := hc _ _ (lcells_at hx (j := 3) rfl)
        have c4 := hc _ _ (lcells_at hx (j := 4) rfl)
        have c6 := hc _ _ (lcells_at hx (j := 6) rfl)
        rw [← Nat.add_assoc] at c3 c4 c6
        have hgf : g ≠ f := HR.out.2.2 g rfl
        obtain ⟨xA, xc, tabs, first, stim, xev, pre, pri, on, ch⟩ := x
        simp only at c3 c4 c6
        clear hc hx
        cases on
        · clear hrd hq c3 c4
          go_wp2_with fail
          go_roundw
          case rel => exact ⟨i + 1, A2, c2, ks, by omega, rfl, rfl, HO.out.1.far (by intro e; exact HO.out.2.2.2.2.2 f e rfl) _, HO.out.2.1, by have := HO.out.2.2.1; omega, (H0.out 0).1, (H0.out 0).2⟩
          case measure =>
            simp only [intOf]
            omega
        · obtain ⟨eb, heb⟩ : ∃ eb, (xev == ev) = eb := ⟨_, rfl⟩
          cases eb
          · clear hrd hq c4
            go_wp2_with fail
            go_roundw
            case rel => exact ⟨i + 1, A2, c2, ks, by omega, rfl, rfl, HO.out.1, HO.out.2.1, by have := HO.out.2.2.1; omega, HO.out.2.2.2.1, HO.out.2.2.2.2.1⟩
            case measure =>
              simp only [intOf]
              omega
          · clear hrd hq
            have hzd : wr.drew.cell? ⟨f, i, none⟩ = some (.int .i64 z) := hz
            have hfd : ∀ j, wr.drew.frozen? ⟨f, j, none⟩ = false := hfr
            go_upto_region 10 with fail
            go_region
            obtain ⟨zv, hzv⟩ : ∃ zv, wrap64 (z + 1) = zv := ⟨_, rfl⟩
            rw [hzv]
            clear hzv hzd hfd
            have HF1 := Lib.hid (H0.out zv)
            have hfq : w.heap.size ≠ f := by omega
            have c41 : (wr.setCell ⟨f, i, none⟩ (.int .i64 zv)).cell? ⟨g, o + i * 8 + 4, none⟩ = some (.int .u8 pre) := (World.cell?_setCell_far wr ⟨f, i, none⟩ ⟨g, o + i * 8 + 4, none⟩ _ (Ne.symm hgf)).trans c4
            obtain ⟨pw, hpw⟩ : ∃ pw, IntKind.i64.wrap pre = pw := ⟨_, rfl⟩
            go_upto_region 11 with fail
            go_region
            clear hpw
            by_cases hge : pw ≤ zv
            · have hgd : decide (pw ≤ zv) = true := decide_eq_true hge
              have HF2 := Lib.hid (And.intro (HF1.out.1.set_ hlt 0) (HF1.out.2.at_ (q := f) (Eq.refl f) i (.int .i64 0)))
              have hOw := (HO.out.1.far (p := ⟨f, i, none⟩) (by intro e; exact HO.out.2.2.2.2.2 f e rfl) (.int .i64 zv)).far (p := ⟨f, i, none⟩) (by intro e; exact HO.out.2.2.2.2.2 f e rfl) (.int .i64 0)
              have hbA := bl1 ((wr.setCell ⟨f, i, none⟩ (.int .i64 zv)).setCell ⟨f, i, none⟩ (.int .i64 0)) (.cells #[.int .i64 i] 3)
              have hOA := hOw.below hbA
              have RB := Blk.rd (cs := [.int .i64 i]) (Blk.new ((wr.setCell ⟨f, i, none⟩ (.int .i64 zv)).setCell ⟨f, i, none⟩ (.int .i64 0)) 3 #[.int .i64 i])
              have hsz9 : ((wr.setCell ⟨f, i, none⟩ (.int .i64 zv)).setCell ⟨f, i, none⟩ (.int .i64 0)).heap.size = wr.heap.size := by simp
              rw [hsz9] at RB
              clear hsz9
              have hsz : w.heap.size + 1 ≤ (((wr.setCell ⟨f, i, none⟩ (.int .i64 zv)).setCell ⟨f, i, none⟩ (.int .i64 0)).alloc (.cells #[.int .i64 i] 3)).heap.size := by have h1 := HO.out.2.2.2.2.1.size; simp at h1 ⊢; omega
              have hkl4 := HO.out.2.2.1
              have HE := Lib.hid (And.intro hOA.drew.drew (And.intro RB.drew.drew (And.intro hsz (And.intro (show ks.length + 1 ≤ maxLen by unfold maxLen; omega) (And.intro (show (ks.length + 1) * 8 ≤ 140737488355328 by omega) hbA)))))
              clear hOA RB hsz hbA
              go_wp2_with (at_builtin; refine wpList_app _ rfl (.tmp 68) (.tmp 70) 67 rfl (w.heap.size + 1) 3 (.int .i64 0) 1 8 Try.underlying67 info3 rfl (by decide) A2 ks.length c2 (ints ks) rfl HE.out.1 _ _ 1 1 [.int .i64 i] rfl rfl HE.out.2.1 (by simp [Value.oneCell']) HE.out.2.2.2.1 HE.out.2.2.2.2.1 HE.out.2.2.1 ?_; intro A5 c5 w5 ho5 hg5 hbk5)
              have hF5 : FAt w5 f := by
                obtain ⟨z0, z1, z2, z3, hB⟩ := HF2.out.1
                refine ⟨z0, z1, z2, z3, (hB.alloc (.cells #[.int .i64 i] 3)).drew.drew.grown hg5 (fun e => HO.out.2.2.2.2.2 f e.symm rfl)⟩
              have hC5 : Chg (fun i => i = f) (w.alloc (.cells #[.slice (some ⟨g, o, none⟩) n c] 51)) w5 := Chg.trans ((HF2.out.2.alloc (.cells #[.int .i64 i] 3)).drew.drew) (Chg.of_grown hg5) (fun j hj e => by
                have := (HE.out.1.lt e.symm).1
                simp at hj
                omega)
              have hint : ints ks ++ [.int .i64 (i : Int)] = ints (ks ++ [i]) := by simp
              rw [hint] at ho5
              have FIN := Lib.hid (And.intro ho5 (And.intro hF5 hC5))
              clear ho5 hF5 hC5 hg5 hbk5 hint
              go_roundw
              case rel => exact ⟨i + 1, A5, c5, ks ++ [i], by omega, rfl, by rw [List.length_append]; rfl, by rw [List.length_append]; exact FIN.out.1, (fun k hk => by
                rcases List.mem_append.1 hk with h | h
                · exact HO.out.2.1 k h
                · rw [List.mem_singleton.1 h]; exact hin), by rw [List.length_append]; simp; omega, FIN.out.2.1, FIN.out.2.2⟩
              case measure =>
                simp only [intOf]
                omega
            · have hgd : decide (pw ≤ zv) = false := decide_eq_false hge
              go_wp2_with fail
              go_roundw
              case rel => exact ⟨i + 1, A2, c2, ks, by omega, rfl, rfl, HO.out.1.far (by intro e; exact HO.out.2.2.2.2.2 f e rfl) _, HO.out.2.1, by have := HO.out.2.2.1; omega, HF1.out.1, HF1.out.2.drew.drew⟩
              case measure =>
                simp only [intOf]
                omega
      · have hinI : ¬ (i : Int) < n := by omega
        have hinJ : (n : Int) ≤ i := by omega
        have hind : decide ((n : Int) ≤ i) = true := decide_eq_true hinJ
        clear hrd hq
        go_wp2_with fail
        go_roundw
        case rel => exact ⟨i + 1, A2, c2, ks, by omega, rfl, rfl, HO.out.1.far (by intro e; exact HO.out.2.2.2.2.2 f e rfl) _, HO.out.2.1, by have := HO.out.2.2.1; omega, (H0.out 0).1, (H0.out 0).2⟩
        case measure =>
          simp only [intOf]
          omega
    · obtain rfl : i = 4 := by omega
      have hq : Blk wr w.heap.size 51 #[.slice A n c] := HB.out.1.chg hC (by omega)
      have hrd : Rd wr wr.heap.size A (lcells cl) := (HR.out.2.1.chg (Nat.le_refl _) hC (fun g hg e => HR.out.2.2 g hg e)).more hC.size
      have SO := Lib.hid (sort_any (w := wr) (q := w.heap.size) (base := w.heap.size + 1) (A2 := A2) (n2 := ks.length) (c2 := c2) (ks := ks) ⟨hq, hrd, hO, rfl, hk, Chg.refl _ _⟩ HR.out.1 (Nat.lt_succ_self _) (fun g hg => Nat.lt_succ_of_lt (hAw g hg)) hkl)
      have HH := Lib.hid (And.intro hO (And.intro hF hC))
      clear hO hF hC hq hrd hlt
      go_wp2_with fail
      refine SO.out.mono ?_
      rintro e w2 ⟨rfl, ks2, hS⟩
      have HS := Lib.hid hS
      clear hS SO
      go_wp2_with fail
      go_ret
      have hS := HS.out
      have hbase : ∀ g, blkOf A2 = some g → w.heap.size + 1 ≤ g := fun g hg => (HH.out.1.lt hg).1
      refine ⟨A2, c2, ks2, by rw [hS.len]; rfl, by rw [hS.len]; exact hS.own.more (Nat.le_succ _), hS.lt, by rw [hS.len]; omega, ?_, ?_⟩
      · obtain ⟨z0, z1, z2, z3, hB⟩ := HH.out.2.1
        exact ⟨z0, z1, z2, z3, hB.chg hS.ch (fun e => by have := hbase f e.symm; omega)⟩
      · refine Chg.trans (Chg.trans (Chg.of_below HB.out.2 (fun i => i = f)) HH.out.2.2 (fun i _ h => h)) hS.ch (fun i hi e => ?_)
        have := hbase i e.symm
        omega
end Go.Proofs.Yteecgdbicokgoaa
