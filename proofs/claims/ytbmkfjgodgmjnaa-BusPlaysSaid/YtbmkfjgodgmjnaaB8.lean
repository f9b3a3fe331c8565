/- Boxes: Send. -/
import Derived.Test.YtbmkfjgodgmjnaaB7
namespace Go.Proofs.Ytbmkfjgodgmjnaa
open Go.RowKit
set_option linter.unusedVariables false
set_option linter.unusedSimpArgs false
theorem insert_any {w : World} {B n c i vb : Nat} {A : Option Addr} {xs vs : List Value} (h : Own w B 26 11 A n c xs) (hB : B ≤ w.heap.size) (hn : n ≤ 2) (hi : i ≤ n) (hv : Blk w vb 26 vs.toArray) (hne : blkOf A ≠ some vb) (hl : vs.length = 11) (h1 : ∀ v ∈ vs, v.oneCell' = true) (h1x : ∀ v ∈ xs, v.oneCell' = true) :
    Calls Try.prog 51 #[.slice A n c, .int .i64 i, .slice (some ⟨vb, 0, none⟩) 1 1] w (InsP w B A n (xs.take (i * 11) ++ vs ++ xs.drop (i * 11))) := by
  rcases Nat.lt_or_ge i n with hlt | hge
  · rcases Nat.lt_or_ge n c with hc | hc
    · exact insert_shift h hB hn hlt hc hv hne hl h1 h1x
    · have := h.2.1
      obtain rfl : c = n := by omega
      exact insert_grow h hB hn hlt hv hl h1 h1x
  · obtain rfl : i = n := by omega
    have e := h.1
    rw [List.take_of_length_le (by omega), List.drop_of_length_le (by omega), List.append_nil]
    exact insert_end h hB hn hv hl h1
/-- Where a frame goes, of the first k. -/
def posN (l : List Fr) (f : Fr) : Nat → Nat
  | 0 => 0
  | k + 1 => if f.rank < (l.getD k Fr.none_).rank then posN l f k else k + 1
theorem posN_le (l : List Fr) (f : Fr) : ∀ k, posN l f k ≤ k
  | 0 => Nat.le_refl _
  | k + 1 => by
    unfold posN
    have := posN_le l f k
    split <;> omega
/-- A frame put to those that wait. -/
def insB (l : List Fr) (f : Fr) : List Fr := l.take (posN l f l.length) ++ f :: l.drop (posN l f l.length)
theorem insB_len (l : List Fr) (f : Fr) : (insB l f).length = l.length + 1 := by
  have := posN_le l f l.length
  simp only [insB, List.length_append, List.length_take, List.length_cons, List.length_drop]
  omega
theorem insB_mem (l : List Fr) (f g : Fr) (h : g ∈ insB l f) : g ∈ l ∨ g = f := by
  rcases List.mem_append.1 h with h | h
  · exact .inl (List.mem_of_mem_take h)
  · rcases List.mem_cons.1 h with h | h
    · exact .inr h
    · exact .inl (List.mem_of_mem_drop h)
theorem insB_cells (l : List Fr) (f : Fr) (p : Nat) (hp : posN l f l.length = p) : fcells (insB l f) = (fcells l).take (p * 11) ++ f.cs ++ (fcells l).drop (p * 11) := by
  rw [insB, hp, fcells_app, fcells_take, fcells, fcells_drop, List.append_assoc]
def sendE (a : Bx) (f : Fr) : Int := if f.may = false then 1 else if 3 ≤ a.tx.length then 20 else 0
def sendX (a : Bx) (f : Fr) : Bx := if sendE a f = 0 then { a with tx := insB a.tx f } else a
theorem send_nil (f : Fr) (w : World) : Calls Try.prog 18 #[.pointer none, f.val] w fun e w' => e = .returned (.int .i64 2) ∧ Below w.heap.size w w' := by
  go_enter Try.func18, Try.ntmps18
  go_wp2_with fail
  go_ret
  exact ⟨rfl, by go_grown⟩
theorem send_arg (q : Addr) (f : Fr) (hf : f.wf) (hm : f.may = false) (w : World) : Calls Try.prog 18 #[.pointer (some q), f.val] w fun e w' => e = .returned (.int .i64 1) ∧ Below w.heap.size w w' := by
  have M := Lib.hid (fun w => may_any f w hf)
  rw [hm] at M
  go_enter Try.func18, Try.ntmps18
  go_wp2_with fail
  refine (M.out _).mono ?_
  rintro e w1 ⟨rfl, hb⟩
  go_wp2_with fail
  go_ret
  exact ⟨rfl, bel1 hb⟩
theorem send_full {Φ : Who} {B q : Nat} {w : World} {a : Bx} (h : BX Φ B w q a) (f : Fr) (hf : f.wf) (hm : f.may = true) (h3 : 3 ≤ a.tx.length) : Calls Try.prog 18 #[.pointer (some ⟨q, 0, none⟩), f.val] w fun e w' => e = .returned (.int .i64 20) ∧ Below w.heap.size w w' := by
  have M := Lib.hid (fun w => may_any f w hf)
  rw [hm] at M
  have ht := h.2.1.t3
  obtain ⟨-, -, -, A0, c0, A1, c1, A2, c2, h4, -⟩ := h
  have h3' : a.tx.length = 3 := by omega
  rw [h3'] at h4
  have H4 := Lib.hid h4
  clear h3 h3' ht h4
  go_enter Try.func18, Try.ntmps18
  go_wp2_with fail
  refine (M.out _).mono ?_
  rintro e w1 ⟨rfl, hb⟩
  have hb1 : Below w.heap.size w w1 := bel1 hb
  have e1 : w1.cell? ⟨q, 1, none⟩ = some (.slice A1 3 c1) := ((H4.out.below hb1).cell 1).trans rfl
  go_wp2_with fail
  go_ret
  exact ⟨rfl, hb1⟩
set_option maxRecDepth 100000 in
set_option maxHeartbeats 4000000 in
theorem send_yes {Φ : Who} {B q : Nat} {w : World} {a : Bx} (h : BX Φ B w q a) (hB : B ≤ w.heap.size) (hN : Nu Φ w) (f : Fr) (hf : f.wf) (hm : f.may = true) (h3 : a.tx.length < 3) : Calls Try.prog 18 #[.pointer (some ⟨q, 0, none⟩), f.val] w (BxP Φ B w q { a with tx := insB a.tx f } (.int .i64 0)) := by
  have M := Lib.hid (fun w => may_any f w hf)
  rw [hm] at M
  have R := Lib.hid (fun f hf w => rank_any f w hf)
  have HB := Lib.hid h
  obtain ⟨h1, -, hΦ, A0, c0, A1, c1, A2, c2, h4, -, h6, -⟩ := h
  obtain ⟨n, hn⟩ : ∃ n, a.tx.length = n := ⟨_, rfl⟩
  rw [hn] at h3 h4 h6
  have hq := h4.lt
  have H4 := Lib.hid h4
  have H6 := Lib.hid h6
  have HN := Lib.hid hn
  have hcm := h6.1.2.2.1
  unfold maxLen at hcm
  have hn3 : (n : Int) < 3 := by omega
  clear h4 h6 hn
  go_enter Try.func18, Try.ntmps18
  go_wp2_with fail
  refine (M.out _).mono ?_
  rintro e w1 ⟨rfl, hb⟩
  have hb1 : Below w.heap.size w w1 := bel1 hb
  have hz1 := hb1.size
  have B1 := H4.out.below hb1
  have BF := (Blk.new w 26 f.cs.toArray).below hb
  have HBF := Lib.hid BF
  have e1 : w1.cell? ⟨q, 1, none⟩ = some (.slice A1 n c1) := (B1.cell 1).trans rfl
  have HB1 := Lib.hid B1
  clear B1 BF M hb
  go_wp2_with fail
  go_loopw [5] (fun v wr => ∃ k : Nat, k ≤ n ∧ v = .int .i64 k ∧ posN a.tx f k = posN a.tx f n ∧ Below w1.heap.size w1 wr) (fun v _ => (intOf v).toNat)
  case atStart => exact ⟨n, Nat.le_refl _, rfl, rfl, Below.refl _ _⟩
  case round =>
    obtain ⟨k, hk, rfl, hp, hb⟩ := hrel
    have HP := Lib.hid hp
    clear hp
    have hzr := hb.size
    by_cases h0 : k = 0
    · subst h0
      have HP : Hid (posN a.tx f n = 0) := Lib.hid HP.out.symm
      go_wp2_with fail
      go_quiet (fail)
      go_wp2_with fail
      have hbW : Below w1.heap.size w1 (wr.drewN nq) := hb.trans ((bel_drewN (Below.refl _ _) nq).mono hzr)
      generalize wr.drewN nq = W at *
      have B82 := HB1.out.below hbW
      have BFW := HBF.out.below hbW
      have hoW := (H6.out.below hb1).below hbW
      have b82c := B82.cell
      have b82f := B82.frozen
      have b82a := fun o => (B82.alloc o).cell
      have b82d := fun o => ((B82.alloc o).drew).cell
      have bfa := fun o => (BFW.alloc o).cell
      have hqW := B82.lt
      have hfW := BFW.lt
      have bfc := BFW.cell
      have hbwW : Below w.heap.size w W := hb1.trans (hbW.mono hz1)
      have hzW := hbwW.size
      have hqne : blkOf A1 ≠ some q := fun e => own_blk_ne hoW.1 B82 (by decide) e.symm
      have hvne : ∀ d, d = W.heap.size → blkOf A1 ≠ some d := fun d hd e => by have := (hoW.1.lt e).2; omega
      have INS : Hid (Calls Try.prog 51 #[.slice A1 n c1, .int .i64 0, .slice (some ⟨W.heap.size, 0, none⟩) 1 1] (W.alloc (.cells f.cs.toArray 26)).drew (InsP (W.alloc (.cells f.cs.toArray 26)).drew B A1 n ((fcells a.tx).take (0 * 11) ++ f.cs ++ (fcells a.tx).drop (0 * 11)))) := Lib.hid (insert_any (i := 0) (vb := W.heap.size) ((hoW.1.alloc (.cells f.cs.toArray 26)).drew) (by simp; omega) (by omega) (Nat.zero_le _) ((Blk.new W 26 f.cs.toArray).drew) (hvne _ rfl) rfl (fr_one f) (fcells_one _))
      have hbS : Below W.heap.size W (W.alloc (.cells f.cs.toArray 26)).drew := bl1d W _
      have HNS := Lib.hid (hN.below (hbwW.trans (hbS.mono hzW)))
      have HXS := Lib.hid (((HB.out.below hbwW).below hbS))
      have HBS := Lib.hid (hbwW.trans (hbS.mono hzW))
      have HFIN : Hid (∀ w5 A5 c5, Own w5 B 26 11 A5 (n + 1) c5 ((fcells a.tx).take (0 * 11) ++ f.cs ++ (fcells a.tx).drop (0 * 11)) → Chg (fun gg => blkOf A1 = some gg) (W.alloc (.cells f.cs.toArray 26)).drew w5 → (∀ gg, blkOf A5 = some gg → gg < (W.alloc (.cells f.cs.toArray 26)).drew.heap.size → blkOf A1 = some gg) → BxP Φ B w q { a with tx := insB a.tx f } (.int .i64 0) (.returned (.int .i64 0)) (w5.setCell ⟨q, 1, none⟩ (.slice A5 (n + 1) c5))) := Lib.hid fun w5 A5 c5 x1 x2 x3 => by
        have hx5 : Ext B (fun c => c = (q, 1)) Φ Φ (W.alloc (.cells f.cs.toArray 26)).drew w5 := ⟨fun _ _ => rfl, HNS.out.more x2.size, x2.mono fun i _ e => ⟨(hoW.1.lt e).1, hoW.2 i e⟩⟩
        have hR := HXS.out.tx_new hx5 (A5 := A5) (m := n + 1) (c5 := c5) (l' := insB a.tx f) (by rw [insB_cells a.tx f 0 (by rw [HN.out]; exact HP.out)]; exact x1) (by rw [insB_len, HN.out]) (by omega) (fun g hg => by
          rcases insB_mem _ _ _ hg with h | h
          · exact HB.out.2.1.tw g h
          · rw [h]; exact hf) (fun g hg hlt => hoW.2 g (x3 g hg hlt))
        exact BxP.mk rfl _ hR.1 ((Ext.of_below hN HBS.out).trans hR.2)
      clear hbS hvne
      go_region_with (first
        | (go_at_call 51; (refine INS.out.mono ?_; rintro e w5 ⟨A5, c5, rfl, ho5, hch5, hA5⟩; have B5 := ((B82.alloc (.cells f.cs.toArray 26)).drew).chg hch5 hqne; have b5 : w5.cell? ⟨q, 1, none⟩ = some (.slice A1 n c1) := (B5.cell 1).trans rfl; have f5 := B5.frozen 1)))
      all_goals
        go_wp2_with fail
        go_ret
        exact HFIN.out _ _ _ ho5 hch5 hA5
    · have hk1 : (0 : Int) < k := by omega
      have hkN : 0 < k := by omega
      have hgd : decide (0 < k) = true := decide_eq_true hkN
      have hgd' : decide ((0 : Int) < (k : Int)) = true := decide_eq_true hk1
      obtain ⟨j, hj⟩ : ∃ j, j + 1 = k := ⟨k - 1, by omega⟩
      have hw1 : IntKind.i64.wrap ((k : Int) - 1) = (j : Int) := by rw [IntKind.wrap_i64]; omega
      have hjn : (j : Int) < n := by omega
      have hj0 : (0 : Int) ≤ j := by omega
      have hjN : j < n := by omega
      have HJ := Lib.hid hj
      clear hj
      obtain ⟨t, ht⟩ : ∃ t, a.tx[j]? = some t := ⟨_, List.getElem?_eq_getElem (by rw [HN.out]; exact hjN)⟩
      have htw := HB.out.2.1.tw t (List.mem_of_getElem? ht)
      have HT := Lib.hid ht
      have B82 := HB1.out.below hb
      have BFr := HBF.out.below hb
      have hor := (H6.out.below hb1).below hb
      obtain ⟨g, o, rfl⟩ := hor.1.at_ (by omega)
      have hgl := (hor.1.lt rfl).2
      have hql := B82.lt
      have hfl := BFr.lt
      have RQ : ∀ w', Below wr.heap.size wr w' → w'.cell? ⟨q, 1, none⟩ = some (.slice (some ⟨g, o, none⟩) n c1) := fun w' hb => (hb.cell (p := ⟨q, 1, none⟩) hql).trans ((B82.cell 1).trans rfl)
      have RF : ∀ w', Below wr.heap.size wr w' → ∀ i, w'.cell? ⟨w.heap.size, i, none⟩ = f.cs.toArray[i]? := fun w' hb => (BFr.below hb).cell
      have hcs : ∀ w', Below wr.heap.size wr w' → ∀ i v, t.cs[i]? = some v → w'.cell? ⟨g, o + (j * 11 + i), none⟩ = some v := fun w' hb i v hv => (hor.1.below hb).cells _ v (fcells_get a.tx j t ht i v hv)
      have d0 : ∀ w', Below wr.heap.size wr w' → w'.cell? ⟨g, o + j * 11, none⟩ = some (.int .u32 t.id) := fun w' hb => hcs w' hb 0 _ rfl
      have d1 : ∀ w', Below wr.heap.size wr w' → w'.cell? ⟨g, o + j * 11 + 1, none⟩ = some (.bool t.ext) := fun w' hb => hcs w' hb 1 _ rfl
      have d2 : ∀ w', Below wr.heap.size wr w' → w'.cell? ⟨g, o + j * 11 + 2, none⟩ = some (.int .i64 t.len) := fun w' hb => hcs w' hb 2 _ rfl
      have d3 : ∀ w', Below wr.heap.size wr w' → w'.cell? ⟨g, o + j * 11 + 3, none⟩ = some (.int .u8 (t.g 0)) := fun w' hb => hcs w' hb 3 _ rfl
      have d4 : ∀ w', Below wr.heap.size wr w' → w'.cell? ⟨g, o + j * 11 + 4, none⟩ = some (.int .u8 (t.g 1)) := fun w' hb => hcs w' hb 4 _ rfl
      have d5 : ∀ w', Below wr.heap.size wr w' → w'.cell? ⟨g, o + j * 11 + 5, none⟩ = some (.int .u8 (t.g 2)) := fun w' hb => hcs w' hb 5 _ rfl
      have d6 : ∀ w', Below wr.heap.size wr w' → w'.cell? ⟨g, o + j * 11 + 6, none⟩ = some (.int .u8 (t.g 3)) := fun w' hb => hcs w' hb 6 _ rfl
      have d7 : ∀ w', Below wr.heap.size wr w' → w'.cell? ⟨g, o + j * 11 + 7, none⟩ = some (.int .u8 (t.g 4)) := fun w' hb => hcs w' hb 7 _ rfl
      have d8 : ∀ w', Below wr.heap.size wr w' → w'.cell? ⟨g, o + j * 11 + 8, none⟩ = some (.int .u8 (t.g 5)) := fun w' hb => hcs w' hb 8 _ rfl
      have d9 : ∀ w', Below wr.heap.size wr w' → w'.cell? ⟨g, o + j * 11 + 9, none⟩ = some (.int .u8 (t.g 6)) := fun w' hb => hcs w' hb 9 _ rfl
      have d10 : ∀ w', Below wr.heap.size wr w' → w'.cell? ⟨g, o + j * 11 + 10, none⟩ = some (.int .u8 (t.g 7)) := fun w' hb => hcs w' hb 10 _ rfl
      have R1 := Lib.hid (fun w => R.out f hf w)
      have R2 := Lib.hid (fun w => R.out t htw w)
      obtain ⟨r1, hr1⟩ : ∃ r1, f.rank = r1 := ⟨_, rfl⟩
      obtain ⟨r2, hr2⟩ : ∃ r2, t.rank = r2 := ⟨_, rfl⟩
      rw [hr1] at R1
      rw [hr2] at R2
      have HPJ : Hid (posN a.tx f k = if r1 < r2 then posN a.tx f j else k) := Lib.hid (by
        rw [← HJ.out]
        show (if f.rank < (a.tx.getD j Fr.none_).rank then posN a.tx f j else j + 1) = _
        rw [List.getD_eq_getElem?_getD, HT.out, Option.getD_some, hr1, hr2])
      clear ht hcs hr1 hr2 hor BFr B82
      by_cases hlt : r1 < r2
      · have hd : decide (r1 < r2) = true := decide_eq_true hlt
        go_wp2_with fail
        go_region_held (fun w' => Below wr.heap.size wr w') (first | exact (Below.refl _ _).drew | exact bel2 (by assumption) (by assumption))
          (first
            | (go_at_call 50; (with_reducible refine (R1.out _).mono ?_); rintro e w3 ⟨rfl, hb3⟩)
            | (go_at_call 50; (with_reducible refine (R2.out _).mono ?_); rintro e w4 ⟨rfl, hb4⟩))
        all_goals
          have hbE : Below wr.heap.size wr w4 := by first | assumption | exact bel2 (by assumption) (by assumption)
          go_wp2_with fail
          go_roundw
          case rel => exact ⟨j, by omega, by first | rfl | (have := HJ.out; simp; omega), by rw [← HP.out, HPJ.out, if_pos hlt], hb.trans (hbE.mono hzr)⟩
          case measure => have := HJ.out; simp [intOf]; omega
      · have hd : decide (r1 < r2) = false := decide_eq_false hlt
        have HP : Hid (posN a.tx f n = k) := Lib.hid (by rw [← HP.out, HPJ.out, if_neg hlt])
        go_wp2_with fail
        go_region_held (fun w' => Below wr.heap.size wr w') (first | exact (Below.refl _ _).drew | exact bel2 (by assumption) (by assumption))
          (first
            | (go_at_call 50; (with_reducible refine (R1.out _).mono ?_); rintro e w3 ⟨rfl, hb3⟩)
            | (go_at_call 50; (with_reducible refine (R2.out _).mono ?_); rintro e w4 ⟨rfl, hb4⟩))
        all_goals
          have hbE : Below wr.heap.size wr w4 := by first | assumption | exact bel2 (by assumption) (by assumption)
          have hbW : Below w1.heap.size w1 w4 := hb.trans (hbE.mono hzr)
          clear hgd hgd' RQ RF d0 d1 d2 d3 d4 d5 d6 d7 d8 d9 d10 hw1 hd R1 R2 HPJ
          rename World => W
          go_wp2_with fail
          have B82 := HB1.out.below hbW
          have BFW := HBF.out.below hbW
          have hoW := (H6.out.below hb1).below hbW
          have b82c := B82.cell
          have b82f := B82.frozen
          have b82a := fun o => (B82.alloc o).cell
          have b82d := fun o => ((B82.alloc o).drew).cell
          have bfa := fun o => (BFW.alloc o).cell
          have hqW := B82.lt
          have hfW := BFW.lt
          have bfc := BFW.cell
          have hbwW : Below w.heap.size w W := hb1.trans (hbW.mono hz1)
          have hzW := hbwW.size
          have hqne : blkOf (some ⟨g, o, none⟩) ≠ some q := fun e => own_blk_ne hoW.1 B82 (by decide) e.symm
          have hvne : ∀ d, d = W.heap.size → blkOf (some ⟨g, o, none⟩) ≠ some d := fun d hd e => by have := (hoW.1.lt e).2; omega
          have INS : Hid (Calls Try.prog 51 #[.slice (some ⟨g, o, none⟩) n c1, .int .i64 (k : Int), .slice (some ⟨W.heap.size, 0, none⟩) 1 1] (W.alloc (.cells f.cs.toArray 26)).drew (InsP (W.alloc (.cells f.cs.toArray 26)).drew B (some ⟨g, o, none⟩) n ((fcells a.tx).take (k * 11) ++ f.cs ++ (fcells a.tx).drop (k * 11)))) := Lib.hid (insert_any (i := k) (vb := W.heap.size) ((hoW.1.alloc (.cells f.cs.toArray 26)).drew) (by simp; omega) (by omega) hk ((Blk.new W 26 f.cs.toArray).drew) (hvne _ rfl) rfl (fr_one f) (fcells_one _))
          have hbS : Below W.heap.size W (W.alloc (.cells f.cs.toArray 26)).drew := bl1d W _
          have HNS := Lib.hid (hN.below (hbwW.trans (hbS.mono hzW)))
          have HXS := Lib.hid (((HB.out.below hbwW).below hbS))
          have HBS := Lib.hid (hbwW.trans (hbS.mono hzW))
          have HFIN : Hid (∀ w5 A5 c5, Own w5 B 26 11 A5 (n + 1) c5 ((fcells a.tx).take (k * 11) ++ f.cs ++ (fcells a.tx).drop (k * 11)) → Chg (fun gg => blkOf (some ⟨g, o, none⟩) = some gg) (W.alloc (.cells f.cs.toArray 26)).drew w5 → (∀ gg, blkOf A5 = some gg → gg < (W.alloc (.cells f.cs.toArray 26)).drew.heap.size → blkOf (some ⟨g, o, none⟩) = some gg) → BxP Φ B w q { a with tx := insB a.tx f } (.int .i64 0) (.returned (.int .i64 0)) (w5.setCell ⟨q, 1, none⟩ (.slice A5 (n + 1) c5))) := Lib.hid fun w5 A5 c5 x1 x2 x3 => by
            have hx5 : Ext B (fun c => c = (q, 1)) Φ Φ (W.alloc (.cells f.cs.toArray 26)).drew w5 := ⟨fun _ _ => rfl, HNS.out.more x2.size, x2.mono fun i _ e => ⟨(hoW.1.lt e).1, hoW.2 i e⟩⟩
            have hR := HXS.out.tx_new hx5 (A5 := A5) (m := n + 1) (c5 := c5) (l' := insB a.tx f) (by rw [insB_cells a.tx f k (by rw [HN.out]; exact HP.out)]; exact x1) (by rw [insB_len, HN.out]) (by omega) (fun g hg => by
              rcases insB_mem _ _ _ hg with h | h
              · exact HB.out.2.1.tw g h
              · rw [h]; exact hf) (fun g hg hlt => hoW.2 g (x3 g hg hlt))
            exact BxP.mk rfl _ hR.1 ((Ext.of_below hN HBS.out).trans hR.2)
          clear hbS hvne
          go_region_with (first
            | (go_at_call 51; (refine INS.out.mono ?_; rintro e w5 ⟨A5, c5, rfl, ho5, hch5, hA5⟩; have B5 := ((B82.alloc (.cells f.cs.toArray 26)).drew).chg hch5 hqne; have b5 : w5.cell? ⟨q, 1, none⟩ = some (.slice (some ⟨g, o, none⟩) n c1) := (B5.cell 1).trans rfl; have f5 := B5.frozen 1)))
          all_goals
            go_wp2_with fail
            go_ret
            exact HFIN.out _ _ _ ho5 hch5 hA5
theorem send_any {Φ : Who} {B q : Nat} {w : World} {a : Bx} (h : BX Φ B w q a) (hB : B ≤ w.heap.size) (hN : Nu Φ w) (f : Fr) (hf : f.wf) : Calls Try.prog 18 #[.pointer (some ⟨q, 0, none⟩), f.val] w (BxP Φ B w q (sendX a f) (.int .i64 (sendE a f))) := by
  cases hm : f.may
  · have e1 : sendE a f = 1 := by unfold sendE; rw [if_pos hm]
    have e2 : sendX a f = a := by unfold sendX; rw [e1, if_neg (by decide)]
    rw [e1, e2]
    refine (send_arg _ f hf hm w).mono ?_
    rintro e w' ⟨rfl, hb⟩
    exact BxP.mk rfl Φ (h.below hb) (Ext.of_below hN hb)
  · by_cases h3 : 3 ≤ a.tx.length
    · have e1 : sendE a f = 20 := by unfold sendE; rw [hm, if_neg (by decide), if_pos h3]
      have e2 : sendX a f = a := by unfold sendX; rw [e1, if_neg (by decide)]
      rw [e1, e2]
      refine (send_full h f hf hm h3).mono ?_
      rintro e w' ⟨rfl, hb⟩
      exact BxP.mk rfl Φ (h.below hb) (Ext.of_below hN hb)
    · have e1 : sendE a f = 0 := by unfold sendE; rw [hm, if_neg (by decide), if_neg h3]
      have e2 : sendX a f = { a with tx := insB a.tx f } := by unfold sendX; rw [e1, if_pos rfl]
      rw [e1, e2]
      exact send_yes h hB hN f hf hm (by omega)
end Go.Proofs.Ytbmkfjgodgmjnaa
