/- Daq: what a command answers and leaves; free, alloc. -/
import Derived.Test.YteecgdbicokgoaaG6
namespace Go.Proofs.Yteecgdbicokgoaa
open Go.RowKit
set_option linter.unusedVariables false
set_option linter.unusedSimpArgs false
set_option maxRecDepth 100000
/-- What a command answers and leaves. -/
def AnsP (Φ : Who) (B : Nat) (w : World) (q : Nat) (a' : Dq) (bs : List Int) (E : Int) (e : Ending) (w' : World) : Prop :=
  ∃ V c Φ', e = .returned (.tuple #[.slice V bs.length c, .int .i64 E]) ∧ Own w' w.heap.size 5 1 V bs.length c (u8s bs) ∧ DX Φ' B w' q a' ∧ Ext B (SdD q) Φ Φ' w w'
theorem AnsP.none_ {Φ : Who} {B : Nat} {w : World} {q : Nat} {a' : Dq} {E : Int} {w' : World} (Φ' : Who) (h : DX Φ' B w' q a') (hx : Ext B (SdD q) Φ Φ' w w') : AnsP Φ B w q a' [] E (.returned (.tuple #[.slice none 0 0, .int .i64 E])) w' := ⟨none, 0, Φ', rfl, Own.nil _ _ _ _, h, hx⟩
theorem AnsP.stay {Φ : Who} {B : Nat} {w : World} {q : Nat} {a : Dq} {E : Int} {w' : World} (h : DX Φ B w q a) (hN : Nu Φ w) (hb : Below w.heap.size w w') : AnsP Φ B w q a [] E (.returned (.tuple #[.slice none 0 0, .int .i64 E])) w' := AnsP.none_ Φ (h.below hb) (Ext.of_below hN hb)
theorem grown_two {w w1 w2 : World} {g : Nat} (h : w.grownBy w1 (some g)) (k : w1.grownBy w2 (some g)) : w.grownBy w2 (some g) :=
  ⟨k.os.trans h.os, k.tape.trans h.tape, k.output.trans h.output, Nat.le_trans h.size k.size, fun i hi hne => (k.block i (Nat.lt_of_lt_of_le hi h.size) hne).trans (h.block i hi hne)⟩
def freeX (a : Dq) : Dq := ⟨a.evs, 0, [], none⟩
theorem free_ok {a : Dq} (h : a.ok) : (freeX a).ok := new0_ok a.evs h.e1 h.e4
theorem free_any {Φ : Who} {B q : Nat} {w : World} {a : Dq} (h : DX Φ B w q a) (hN : Nu Φ w) (c : Cm) : Calls Try.prog 91 #[.pointer (some ⟨q, 0, none⟩), c.val] w (AnsP Φ B w q (freeX a) [] 0) := by
  obtain ⟨hok, A0, c0, cl, P, hab, hX⟩ := h
  have HX := Lib.hid hX
  have HOK := Lib.hid hok
  have hb := bl1 w (.cells c.cs.toArray 35)
  have hB1 := hX.blk.below hb
  have hc := hB1.cell
  clear hX hok hab
  go_enter Try.func91, Try.ntmps91
  go_wp2_with (refine wpList_stB rfl 164 (.tmp 12) (.tmp 11) rfl (.agg #[.int .i64 a.evs, .int .i64 0, .slice none 0 0, .pointer none]) 0 rfl rfl hB1 (by simp [Value.cells]) (by kernel_rfl) (by simp [Value.cells, Value.oneCell']) ?_; intro w5 B5 hg5)
  go_ret2
  have B5 : Blk w5 q 164 #[.int .i64 a.evs, .int .i64 0, .slice none 0 0, .pointer none] := B5
  have hx := Ext.one (hN.below hb) hg5 HX.out.b HX.out.own
  exact AnsP.none_ Φ ⟨free_ok HOK.out, none, 0, [], none, rfl, HX.out.b, HX.out.own, B5, OwC.nil _ _ _ _ _ _, (fun i x hx => by simp at hx), (fun i x k t hx => by simp at hx), rfl⟩ ((Ext.of_below hN hb).trans (hx.mono (Nat.le_refl _) fun c hc => by subst hc; exact ⟨rfl, .inl (by show (0 : Nat) < 5; decide)⟩))
def n0 : Ls := ⟨[], 0, false, 0, 1, 0, false, false⟩
def allocX (a : Dq) (n : Nat) : Dq := ⟨a.evs, 1, List.replicate n n0, a.ptr⟩
theorem abs_rep (n : Nat) : abs (List.replicate n l0) = List.replicate n n0 := by simp [abs, l0, n0, Lc.ab]
theorem alloc_ok {a : Dq} (h : a.ok) {n : Nat} (hn : n ≤ 4) (hs : a.step = 0) : (allocX a n).ok := by
  have hp : a.ptr = none := by
    cases he : a.ptr with
    | none => rfl
    | some p =>
      obtain ⟨x, t, h1, -⟩ := h.pp p he
      rw [h.z0 hs] at h1
      simp at h1
  refine ⟨h.e1, h.e4, by show (1 : Nat) ≤ 3; decide, by show (List.replicate n n0).length ≤ 4; simpa using hn, ?_, fun x hx t ht => ?_, fun x hx => ?_, fun x hx t ht => ?_, (fun h => by cases h), fun p hp' => ?_⟩
  · show manyT (List.replicate n n0) ≤ 16
    have : manyT (List.replicate n n0) = 0 := by simp [manyT, n0]
    omega
  · rw [List.eq_of_mem_replicate hx] at ht; cases ht
  · rw [List.eq_of_mem_replicate hx]; rfl
  · rw [List.eq_of_mem_replicate hx] at ht; cases ht
  · have h1 : a.ptr = some p := hp'
    rw [hp] at h1; cases h1
/-- The Daq's own block was written, its lists are others. -/
theorem DXc.set0n {Φ : Who} {B : Nat} {w w' : World} {q evs step c0 evs' step' : Nat} {A0 P A1 : Option Addr} {c1 : Nat} {cl cl' : List Lc} {pt : Option (Nat × Nat × Nat)} (h : DXc Φ B w q evs step A0 c0 cl P pt) (hN : Nu Φ w) {w1 : World} (hb : Below w.heap.size w w1) (ho : Own w1 w.heap.size 71 8 A1 cl'.length c1 (lcells cl')) (hnt : ∀ x ∈ cl', x.tabs = [] ∧ x.A = none ∧ x.c = 0)
    (hg : w1.grownBy w' (some q)) (hB : Blk w' q 164 #[.int .i64 evs', .int .i64 step', .slice A1 cl'.length c1, .pointer P]) : ∃ Φ', DXc Φ' B w' q evs' step' A1 c1 cl' P pt ∧ Ext B (SdD q) Φ Φ' w w' := by
  have hB0 : B ≤ w.heap.size := Nat.le_trans h.b (Nat.le_of_lt h.blk.lt)
  have hA : ∀ g, blkOf A1 = some g → w.heap.size ≤ g ∧ g < w1.heap.size := fun g hg => ho.lt hg
  have hx := Ext.fresh (B := B) (k := (q, 1)) (A := A1) hN hb hA
  have h1 := h.ext hx (fun j h => h)
  have hx2 := Ext.one hx.nu hg h1.b h1.own
  have hqA : ∀ g, blkOf A1 = some g → g ≠ q := fun g hg he => by have := (hA g hg).1; have := h.blk.lt; omega
  have ne : ∀ j, j ≠ 0 → ¬ ((q, j) : Nat × Nat) = (q, 0) := fun j hj hh => by simp at hh; exact hj hh
  refine ⟨_, ⟨h.b, h1.own, hB, ⟨(ho.more hB0).grown hg ?_, fun g hg => paint_at hg⟩, fun i x hx => ?_, fun i x k t hx ht => ?_, h1.ptr.ext hx2 (ne 2 (by decide))⟩, (hx.mono (Nat.le_refl _) (fun _ h => h.elim)).trans (hx2.mono (Nat.le_refl _) fun c hc => by subst hc; exact ⟨rfl, .inl (by show (0 : Nat) < 5; decide)⟩)⟩
  · by_cases hn : blkOf A1 = none
    · exact .inl hn
    · exact .inr fun e => hqA q e rfl
  · obtain ⟨e1, e2, e3⟩ := hnt x (List.mem_of_getElem? hx)
    rw [e1, e2, e3]
    exact OwC.nil _ _ _ _ _ _
  · obtain ⟨e1, -⟩ := hnt x (List.mem_of_getElem? hx)
    rw [e1] at ht
    simp at ht
theorem alloc_seq {Φ : Who} {B q : Nat} {w : World} {a : Dq} (h : DX Φ B w q a) (hN : Nu Φ w) (c : Cm) (hs : a.step ≠ 0) : Calls Try.prog 92 #[.pointer (some ⟨q, 0, none⟩), c.val] w (AnsP Φ B w q a [] 90) := by
  have HD := Lib.hid h
  have HN := Lib.hid hN
  obtain ⟨hok, A0, c0, cl, P, hab, hX⟩ := h
  have hb := bl1 w (.cells c.cs.toArray 35)
  have hc := (hX.blk.below hb).cell
  have hsI : ((a.step : Int) != 0) = true := by simp; omega
  clear hX hok hab hN
  go_enter Try.func92, Try.ntmps92
  go_wp2_with fail
  go_ret2
  exact AnsP.stay HD.out HN.out hb
theorem alloc_full {Φ : Who} {B q : Nat} {w : World} {a : Dq} (h : DX Φ B w q a) (hN : Nu Φ w) (c : Cm) (hs : a.step = 0) (h4 : 4 < c.a0) : Calls Try.prog 92 #[.pointer (some ⟨q, 0, none⟩), c.val] w (AnsP Φ B w q a [] 20) := by
  have HD := Lib.hid h
  have HN := Lib.hid hN
  obtain ⟨hok, A0, c0, cl, P, hab, hX⟩ := h
  have hb := bl1 w (.cells c.cs.toArray 35)
  have hc := (hX.blk.below hb).cell
  rw [hs] at hc
  clear hX hok hab hN hs
  go_enter Try.func92, Try.ntmps92
  go_wp2_with fail
  go_ret2
  exact AnsP.stay HD.out HN.out hb
set_option maxHeartbeats 2000000 in
theorem alloc_yes {Φ : Who} {B q : Nat} {w : World} {a : Dq} (h : DX Φ B w q a) (hN : Nu Φ w) (c : Cm) (hs : a.step = 0) {n : Nat} (hn : c.a0 = n) (h4 : n ≤ 4) : Calls Try.prog 92 #[.pointer (some ⟨q, 0, none⟩), c.val] w (AnsP Φ B w q (allocX a n) [] 0) := by
  have HD := Lib.hid h
  have HN := Lib.hid hN
  have HS := Lib.hid hs
  obtain ⟨hok, A0, c0, cl, P, hab, hX⟩ := h
  have hb := bl1 w (.cells c.cs.toArray 35)
  have hc := (hX.blk.below hb).cell
  rw [hs] at hc
  have HX := Lib.hid hX
  have HOK := Lib.hid hok
  have h4I : (n : Int) ≤ 4 := by omega
  have h4N : ¬ ((4 : Int) < n) := by omega
  have hnI : (0 : Int) ≤ n := by omega
  have R := Lib.hid (fun (g : Nat) (w : World) (hB : Blk w g 71 l0.cs.toArray) => repeat_any g n w h4 hB)
  obtain ⟨code, a0, a1, a2, a3, a4, cw, bA, bn, bc⟩ := c
  simp only at hn
  subst hn
  clear hX hok hab hN hs
  go_enter Try.func92, Try.ntmps92
  go_wp2_with fail
  refine calls_named fun W hW => ?_
  obtain ⟨BL, hbW⟩ := blk1 (c1 := l0.cs.toArray) hW
  rw [World.size_alloc] at BL
  have hbW0 := hb.trans (hbW.mono hb.size)
  refine (R.out _ _ BL).mono ?_
  rintro e w5 ⟨A1, c1, rfl, ho, hb5⟩
  have hb05 := hbW0.trans (hb5.mono hbW0.size)
  have hB5 := HX.out.blk.below hb05
  have hz := hbW0.size
  clear hW BL R hc
  go_wp2_with (first
    | (refine wpList_stB rfl 51 (.tmp 27) (.tmp 25) rfl (.slice A1 n c1) 2 rfl rfl hB5 (by simp [Value.cells]) (by kernel_rfl) (by simp [Value.cells, Value.oneCell']) ?_; intro w6 B6 hg6)
    | (refine wpList_stB rfl 161 (.tmp 29) (.const (.int .i64 1)) rfl (.int .i64 1) 1 rfl rfl B6 (by simp [Value.cells, putL]) (by kernel_rfl) (by simp [Value.cells, Value.oneCell']) ?_; intro w7 B7 hg7))
  go_ret2
  have B7 : Blk w7 q 164 #[.int .i64 a.evs, .int .i64 1, .slice A1 n c1, .pointer P] := B7
  have hl : (List.replicate n l0).length = n := by simp
  obtain ⟨Φ', hX', hx⟩ := HX.out.set0n HN.out hb05 (cl' := List.replicate n l0) (A1 := A1) (c1 := c1) (evs' := a.evs) (step' := 1) (w' := w7) (by rw [hl]; exact ho.more hz) (fun x hx => by rw [List.eq_of_mem_replicate hx]; exact ⟨rfl, rfl, rfl⟩) (grown_two hg6 hg7) (by rw [hl]; exact B7)
  exact AnsP.none_ Φ' ⟨alloc_ok HOK.out h4 HS.out, A1, c1, _, P, abs_rep n, hX'⟩ hx
end Go.Proofs.Yteecgdbicokgoaa
