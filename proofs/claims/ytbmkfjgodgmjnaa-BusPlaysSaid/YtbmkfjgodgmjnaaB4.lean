/- Boxes: Clone, New, Take. -/
import Derived.Test.YtbmkfjgodgmjnaaB3
namespace Go.Proofs.Ytbmkfjgodgmjnaa
open Go.RowKit
set_option linter.unusedVariables false
set_option linter.unusedSimpArgs false
/-- A row that a caller hands over: its cells read, its length fits. -/
def CloneP (w : World) (n : Nat) (vs : List Value) (e : Ending) (w' : World) : Prop := ∃ A c, e = .returned (.slice A n c) ∧ Own w' w.heap.size 33 3 A n c vs ∧ Below w.heap.size w w'
theorem fr33 (W : World) : Own (W.alloc (.cells #[] 33)) W.heap.size 33 3 (some ⟨W.heap.size, 0, none⟩) 0 0 [] := Own.made (e := 33) (size := 3) W (Nat.le_refl _) #[] 0 0 (by decide) (by decide) rfl
theorem fr26 (W : World) : Own (W.alloc (.cells #[] 26)) W.heap.size 26 11 (some ⟨W.heap.size, 0, none⟩) 0 0 [] := Own.made (e := 26) (size := 11) W (Nat.le_refl _) #[] 0 0 (by decide) (by decide) rfl
theorem clone_any (A : Option Addr) (n c : Nat) (l : List Flt) (w : World) (hx : l.length = n) (hr : Rd w w.heap.size A (flcells l)) (hA : A = none → n = 0 ∧ c = 0) (hl : n ≤ 1000000) :
    Calls Try.prog 44 #[.slice A n c] w (CloneP w n (flcells l)) := by
  subst hx
  cases A with
  | none =>
    obtain ⟨h0, rfl⟩ := hA rfl
    obtain rfl : l = [] := List.eq_nil_of_length_eq_zero h0
    have he := Lib.run_eql_slice_nil (P := Try.prog) w 22 33 none 0 0 0 0 Try.underlying22
    go_enter Try.func44, Try.ntmps44
    go_wp2
    go_ret
    exact ⟨none, 0, rfl, Own.nil _ _ _ _, Below.refl _ _⟩
  | some a =>
    have he := fun w => Lib.run_eql_slice_nil (P := Try.prog) w 22 33 (some a) l.length c 0 0 Try.underlying22
    have hbel := (Below.refl w.heap.size w).alloc (Nat.le_refl _) (.cells #[] 33)
    have hr' := hr.al (.cells #[] 33)
    clear hA
    go_enter Try.func44, Try.ntmps44
    go_wp2_with (at_builtin; refine wpList_app _ rfl (.tmp 5) (.tmp 6) 22 rfl w.heap.size 33 (.agg #[.int .u32 0, .int .u32 0, .bool false]) 3 12 Try.underlying22 info33 rfl (by decide) _ 0 0 [] rfl (fr33 w) _ _ l.length c _ rfl (flcells_len l) hr' (flcells_one _) (by unfold maxLen; omega) (by omega) (by simp) ?_; intro A' c' w' hown hg hbk)
    go_ret
    simp only [Nat.zero_add, List.nil_append] at hown
    exact ⟨A', c', by simp, hown, bel_app hbel (fr33 w) (Nat.le_refl _) hg⟩
/-- What New answers. -/
def NewP (Φ : Who) (B : Nat) (w : World) (l : List Flt) (e : Ending) (w' : World) : Prop := ∃ q Φ', e = .returned (.tuple #[.pointer (some ⟨q, 0, none⟩), .int .i64 0]) ∧ w.heap.size ≤ q ∧ BX Φ' B w' q ⟨l, [], [], false⟩ ∧ Ext B (fun _ => False) Φ Φ' w w'
theorem new_no (A : Option Addr) (n c : Nat) (w : World) (hn : 8 < n) (hl : n ≤ maxLen) : Calls Try.prog 15 #[.slice A n c] w fun e w' => e = .returned (.tuple #[.pointer none, .int .i64 3]) ∧ w = w' := by
  unfold maxLen at hl
  have hn' : (8 : Int) < n := by omega
  go_enter Try.func15, Try.ntmps15
  go_wp2_with fail
  go_ret2
  exact ⟨rfl, rfl⟩
theorem new_yes (Φ : Who) (B : Nat) (A : Option Addr) (n c : Nat) (l : List Flt) (w : World) (hB : B ≤ w.heap.size) (hN : Nu Φ w) (hx : l.length = n) (hr : Rd w w.heap.size A (flcells l)) (hA : A = none → n = 0 ∧ c = 0) (hl : n ≤ 8) (hwf : ∀ x ∈ l, x.wf) :
    Calls Try.prog 15 #[.slice A n c] w (NewP Φ B w l) := by
  have hn' : (n : Int) ≤ 8 := by omega
  have C := Lib.hid (clone_any A n c l w hx hr hA (by omega))
  have HX := Lib.hid hx
  clear hr hA hx
  go_enter Try.func15, Try.ntmps15
  go_wp2_with fail
  refine C.out.mono ?_
  rintro e w1 ⟨A1, c1, rfl, ho, hb⟩
  have hz := hb.size
  go_wp2_with fail
  go_ret2
  refine ⟨w1.heap.size, paint Φ (some ⟨w1.heap.size, 0, none⟩) (w1.heap.size, 0), rfl, hz, ⟨Nat.le_trans hB hz, ⟨by rw [HX.out]; exact hl, by simp, by simp, hwf, (fun f h => by cases h), (fun f h => by cases h)⟩, paint_at rfl, A1, c1, none, 0, none, 0, ?_, ?_, OwC.nil _ _ _ _ _ _, OwC.nil _ _ _ _ _ _⟩, ?_⟩
  · show Blk _ _ 82 #[.slice A1 l.length c1, _, _, _]
    rw [HX.out]
    exact Blk.new _ _ _
  · have h1 : OwC Φ (0, 9) w1 w.heap.size 33 3 A1 n c1 (flcells l) := OwC.fresh ho hN fun g hg => (ho.lt hg).1
    have h2 := (RdC.of_own (B := B) h1).below (bl1 w1 (.cells #[.slice A1 n c1, .slice none 0 0, .slice none 0 0, .bool false] 82))
    have h3 := fun g hg => h1.1.lt (g := g) hg
    intro hn0
    obtain ⟨b, o, e1, e2, e3, e4⟩ := h2 hn0
    refine ⟨b, o, e1, e2, ?_, e4⟩
    have hbl : b < w1.heap.size := (h3 b (by rw [e1]; rfl)).2
    rcases e3 with e3 | e3
    · exact .inl e3
    · exact .inr ((paint_ne (fun hh => by simp [blkOf] at hh; omega)).trans e3)
  · refine ((Ext.of_below hN hb).alloc _).paint fun g hg => ?_
    simp [blkOf] at hg
    subst hg
    exact ⟨by simp, fun h => by omega⟩
/-- What Take answers and leaves. -/
def takeB (a : Bx) (f : Fr) : Bool := f.may && anyB a.fl f
def takeX (a : Bx) (f : Fr) : Bx := if takeB a f then (if a.rx.length < 4 then { a with rx := a.rx ++ [f] } else { a with lost := true }) else a
theorem take_nil (f : Fr) (w : World) : Calls Try.prog 16 #[.pointer none, f.val] w fun e w' => e = .returned (.bool false) ∧ Below w.heap.size w w' := by
  go_enter Try.func16, Try.ntmps16
  go_wp2_with fail
  go_ret
  exact ⟨rfl, by go_grown⟩
set_option maxHeartbeats 1000000 in
theorem take_no {Φ : Who} {B q : Nat} {w : World} {a : Bx} (h : BX Φ B w q a) (f : Fr) (hf : f.wf) (hno : takeB a f = false) : Calls Try.prog 16 #[.pointer (some ⟨q, 0, none⟩), f.val] w fun e w' => e = .returned (.bool false) ∧ Below w.heap.size w w' := by
  have hl8 := h.2.1.f8
  obtain ⟨-, -, -, A0, c0, A1, c1, A2, c2, h4, h5, -⟩ := h
  have hq := h4.lt
  have M := Lib.hid (fun w => may_any f w hf)
  unfold takeB at hno
  cases hm : f.may
  · rw [hm] at M
    clear hno h5
    have e0 : w.cell? ⟨q, 0, none⟩ = some (.slice A0 a.fl.length c0) := (h4.cell 0).trans rfl
    clear h4
    go_enter Try.func16, Try.ntmps16
    go_wp2_with fail
    refine (M.out _).mono ?_
    rintro e w1 ⟨rfl, hb⟩
    go_wp2_with fail
    go_ret
    exact ⟨rfl, bel1 hb⟩
  · rw [hm] at M hno
    have hno' : anyB a.fl f = false := by simpa using hno
    have hb0 := bl1 w (.cells f.cs.toArray 26)
    have H4 := Lib.hid h4
    have H5 := Lib.hid h5
    clear hno h4 h5
    go_enter Try.func16, Try.ntmps16
    go_wp2_with fail
    refine (M.out _).mono ?_
    rintro e w1 ⟨rfl, hb⟩
    have hb1 : Below w.heap.size w w1 := hb0.trans (hb.mono (by simp))
    have e0 : w1.cell? ⟨q, 0, none⟩ = some (.slice A0 a.fl.length c0) := ((H4.out.below hb1).cell 0).trans rfl
    have BF : Blk w1 w.heap.size 26 f.cs.toArray := (Blk.new w 26 f.cs.toArray).below hb
    have C := Lib.hid (contains_any A0 a.fl.length c0 a.fl f w.heap.size w1 rfl (by omega) ((H5.out.below hb1).rd) BF)
    rw [hno'] at C
    clear BF
    go_wp2_with fail
    refine C.out.mono ?_
    rintro e w2 ⟨rfl, hb2⟩
    go_wp2_with fail
    go_ret
    exact ⟨rfl, hb1.trans (hb2.mono hb1.size)⟩
/-- The frames that were taken are these now. -/
theorem BX.rx_new {Φ : Who} {B q : Nat} {W w5 : World} {a : Bx} (h : BX Φ B W q a) (he : Ext B (fun c => c = (q, 2)) Φ Φ W w5) {A5 : Option Addr} {m c5 : Nat} {l' : List Fr} (ho : Own w5 B 26 11 A5 m c5 (fcells l')) (hl : l'.length = m) (h4 : m ≤ 4) (hw : ∀ f ∈ l', f.wf) (hA : ∀ g, blkOf A5 = some g → g < W.heap.size → Φ g = (q, 2)) :
    BX (paint Φ A5 (q, 2)) B (w5.setCell ⟨q, 2, none⟩ (.slice A5 m c5)) q { a with rx := l' } ∧ Ext B (Sq q) Φ (paint Φ A5 (q, 2)) W (w5.setCell ⟨q, 2, none⟩ (.slice A5 m c5)) := by
  obtain ⟨h1, h2, h3, A0, c0, A1, c1, A2, c2, k4, k5, k6, k7⟩ := h
  have B82 := k4.ext he (fun hx => by have := hx.2; rw [h3] at this; simp at this)
  have hE3 : Ext B (fun c => c = (q, 2) ∨ c = (q, 0)) Φ (paint Φ A5 (q, 2)) W (w5.setCell ⟨q, 2, none⟩ (.slice A5 m c5)) :=
    ((he.mono (Nat.le_refl _) (fun c hc => .inl hc)).set_ (g := q) h1 (.inr h3) B82.lt _).paint fun g hg => ⟨by have := (ho.lt hg).2; simpa [World.setCell] using this, fun hlt => hA g hg hlt⟩
  have hE : Ext B (Sq q) Φ (paint Φ A5 (q, 2)) W (w5.setCell ⟨q, 2, none⟩ (.slice A5 m c5)) := hE3.mono (Nat.le_refl _) fun c hc => by
    rcases hc with rfl | rfl
    · exact ⟨rfl, (by decide : 2 < 3)⟩
    · exact ⟨rfl, (by decide : 0 < 3)⟩
  subst hl
  exact ⟨⟨h1, ⟨h2.f8, h2.t3, h4, h2.fw, h2.tw, hw⟩, (hE3.1 q k4.lt).trans h3, A0, c0, A1, c1, A5, c5, B82.set_ 2 _, k5.ext hE (Sq.no9 q), k6.ext hE3 (by simp), OwC.paint_self (ho.far (fun e => own_blk_ne ho B82 (by decide) e.symm) _)⟩, hE⟩
/-- The frames that wait are these now. -/
theorem BX.tx_new {Φ : Who} {B q : Nat} {W w5 : World} {a : Bx} (h : BX Φ B W q a) (he : Ext B (fun c => c = (q, 1)) Φ Φ W w5) {A5 : Option Addr} {m c5 : Nat} {l' : List Fr} (ho : Own w5 B 26 11 A5 m c5 (fcells l')) (hl : l'.length = m) (h4 : m ≤ 3) (hw : ∀ f ∈ l', f.wf) (hA : ∀ g, blkOf A5 = some g → g < W.heap.size → Φ g = (q, 1)) :
    BX (paint Φ A5 (q, 1)) B (w5.setCell ⟨q, 1, none⟩ (.slice A5 m c5)) q { a with tx := l' } ∧ Ext B (Sq q) Φ (paint Φ A5 (q, 1)) W (w5.setCell ⟨q, 1, none⟩ (.slice A5 m c5)) := by
  obtain ⟨h1, h2, h3, A0, c0, A1, c1, A2, c2, k4, k5, k6, k7⟩ := h
  have B82 := k4.ext he (fun hx => by have := hx.2; rw [h3] at this; simp at this)
  have hE3 : Ext B (fun c => c = (q, 1) ∨ c = (q, 0)) Φ (paint Φ A5 (q, 1)) W (w5.setCell ⟨q, 1, none⟩ (.slice A5 m c5)) :=
    ((he.mono (Nat.le_refl _) (fun c hc => .inl hc)).set_ (g := q) h1 (.inr h3) B82.lt _).paint fun g hg => ⟨by have := (ho.lt hg).2; simpa [World.setCell] using this, fun hlt => hA g hg hlt⟩
  have hE : Ext B (Sq q) Φ (paint Φ A5 (q, 1)) W (w5.setCell ⟨q, 1, none⟩ (.slice A5 m c5)) := hE3.mono (Nat.le_refl _) fun c hc => by
    rcases hc with rfl | rfl
    · exact ⟨rfl, (by decide : 1 < 3)⟩
    · exact ⟨rfl, (by decide : 0 < 3)⟩
  subst hl
  exact ⟨⟨h1, ⟨h2.f8, h4, h2.r4, h2.fw, hw, h2.rw⟩, (hE3.1 q k4.lt).trans h3, A0, c0, A5, c5, A2, c2, B82.set_ 1 _, k5.ext hE (Sq.no9 q), OwC.paint_self (ho.far (fun e => own_blk_ne ho B82 (by decide) e.symm) _), k7.ext hE3 (by simp)⟩, hE⟩
end Go.Proofs.Ytbmkfjgodgmjnaa
