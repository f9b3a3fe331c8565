/- The slave's Do. -/
import Derived.Test.YteecgdbicokgoaaS5
import Derived.Test.YteecgdbicokgoaaS6
namespace Go.Proofs.Yteecgdbicokgoaa
open Go.RowKit
set_option linter.unusedVariables false
set_option linter.unusedSimpArgs false
set_option maxRecDepth 100000
theorem TA.ch78 {w w' : World} {L T N s m l : Nat} {x : St} (h : TA w L T N s m l x) (hc : ChT 0 [78] w w') : TA w' L T N s m l x :=
  ⟨h.k, Blk.chT h.sl hc (by decide), h.mem.chT hc (by decide) (by decide) (by decide) (by decide) (by decide), h.lk.chT hc (by decide) (by decide) (by decide), h.ts, h.lt, Nat.le_trans h.n hc.size⟩
theorem ch78 {w : World} {g : Nat} {cs : Array Value} (hB : Blk w g 78 cs) (u : Value) : ChT 0 [78] w (w.setCell ⟨g, 0, none⟩ u) := (ChT.refl 0 [78] w).set_ hB (by simp) (Nat.zero_le _) u
theorem PosP.ch78 {w w1 w' : World} {bs : List Int} {v : Value} (h : PosP w bs v w1) (hc : ChT 0 [78] w1 w') : PosP w bs v w' := by
  obtain ⟨g, A, c, h1, h2, h3, h4⟩ := h
  exact ⟨g, A, c, h1, h2, h3.chT hc (by decide), h4.chT hc (by decide)⟩
/-- What Do answers: done. -/
def DoP (w : World) (L T s m l : Nat) (x : St) (bs : List Int) (e : Ending) (w' : World) : Prop := ∃ v, e = .returned (.tuple #[v, .int .i64 0]) ∧ PosP w bs v w' ∧ TA w' L T w'.heap.size s m l x ∧ ChS L T w w'
/-- What Do answers: refused. -/
def DoN (w : World) (L T s m l : Nat) (x : St) (f : Int) (e : Ending) (w' : World) : Prop := ∃ g, e = .returned (.tuple #[.slice (some ⟨g, 0, none⟩) 1 1, .int .i64 0]) ∧ w.heap.size ≤ g ∧ Blk w' g 82 #[.int .u8 2, .int .u8 f, .slice none 0 0] ∧ TA w' L T w'.heap.size s m l x ∧ ChS L T w w'
set_option maxHeartbeats 4000000 in
theorem do_ans {w : World} {L T N s m l : Nat} {x y : St} (h : TA w L T N s m l x) (c : Cm) (hw : c.wf) {bb : List Int} (hbl : bb.length = c.bn) (h10 : c.bn ≤ 1000) (hr : Rd w w.heap.size c.bA (u8s bb)) (hp : putE c = 0) (hc : c.code < 18) (h9 : c.code ≠ 9) (hon : x.on = true ∨ c.code = 1) (v : Value) {bs : List Int}
    (hd : ∀ w1 N1, TA w1 L T N1 s m l { x with block := 0 } → ChS L T w w1 → Calls Try.prog 56 #[.pointer (some ⟨s, 0, none⟩), c.val, v] w1 (AnsS w1 L T s m l y bs)) :
    Calls Try.prog 32 #[.pointer (some ⟨s, 0, none⟩), c.val, v] w (DoP w L T s m l y bs) := by
  have hmf : ∀ (fn : Fn) (first cap : Array Value) (w : World), (Instr.makeFunc fn first cap).run Try.prog w = .ok (.func fn first cap) w := fun _ _ _ _ => rfl
  have hb2 := bl2 w (.cells c.cs.toArray 35) (.cells #[.slice none 0 0] 78)
  have PC := Lib.hid (putc_any c bb _ hw hbl h10 (hr.bel hb2))
  rw [hp] at PC
  have H := Lib.hid h
  have HD := Lib.hid hd
  have HB2 := Lib.hid hb2
  obtain ⟨K1, K2, hbW⟩ := blk2 (W := (w.alloc (.cells c.cs.toArray 35)).alloc (.cells #[.slice none 0 0] 78)) rfl
  have HK := Lib.hid (⟨K1, K2⟩ : Blk _ w.heap.size 35 c.cs.toArray ∧ Blk _ (w.heap.size + 1) 78 #[.slice none 0 0])
  have k1 := K1.cell
  have k2 := K2.cell
  have f2 := K2.frozen
  have hcd : decide ((18 : Int) ≤ c.code) = false := decide_eq_false (by omega)
  have h9d : (c.code != 9) = true := by simpa using h9
  obtain ⟨code, a0, a1, a2, a3, a4, cw, bA, bn, bc⟩ := c
  clear h hr hp hb2 K1 K2 hd hw h9
  go_enter_defers Try.func32, Try.ntmps32
  go_wp2_with fail
  refine PC.out.mono ?_
  rintro e w1 ⟨V1, rfl, hb1⟩
  have hb01 := HB2.out.trans (hb1.mono HB2.out.size)
  have T1 := H.out.below hb01
  have B1 : Blk w1 s 146 #[.pointer (some ⟨m, 0, none⟩), .pointer (some ⟨l, 0, none⟩), .bool x.on, .int .u8 x.area, .int .u32 x.pt, .int .i64 x.block] := T1.sl
  have k1 := (HK.out.1.below hb1).cell
  have b1 := B1.cell
  have HT1 := Lib.hid T1
  have HB01 := Lib.hid hb01
  have HK1 := Lib.hid (⟨HK.out.1.below hb1, HK.out.2.below hb1⟩ : Blk w1 w.heap.size 35 (⟨code, a0, a1, a2, a3, a4, cw, bA, bn, bc⟩ : Cm).cs.toArray ∧ Blk w1 (w.heap.size + 1) 78 #[.slice none 0 0])
  have hns : w.heap.size ≠ s ∧ w.heap.size + 1 ≠ s := by have := H.out.sl.lt; omega
  have hon' : x.on = true ∨ (x.on = false ∧ code = 1) := by
    rcases hon with h | h
    · exact .inl h
    · cases hx : x.on
      · exact .inr ⟨rfl, h⟩
      · exact .inl rfl
  obtain ⟨on, hxo⟩ : ∃ on, x.on = on := ⟨_, rfl⟩
  have HXO := Lib.hid hxo
  rw [hxo] at B1 b1 hon'
  clear PC HK T1 hb01 hb1 f2 hon hxo
  rcases hon' with rfl | ⟨rfl, rfl⟩
  all_goals
    go_wp2_with (refine wpList_stB rfl 3 (.tmp 40) (.const (.int .i64 0)) rfl (.int .i64 0) 5 rfl rfl B1 (by simp [Value.cells]) (by kernel_rfl) (by simp [Value.cells, Value.oneCell']) ?_; intro w2 B2 hg2; have B2 : Blk w2 s 146 #[.pointer (some ⟨m, 0, none⟩), .pointer (some ⟨l, 0, none⟩), .bool _, .int .u8 x.area, .int .u32 x.pt, .int .i64 0] := B2; have b2 := B2.cell; have k12 := (HK1.out.1.grown hg2 (by intro e; injection e with e; exact hns.1 e)).cell)
    obtain ⟨T2, C2⟩ := HT1.out.slw (y := { x with block := 0 }) ⟨rfl, rfl⟩ ⟨H.out.k.a0, H.out.k.a1, H.out.k.p0, H.out.k.p1⟩ (by rw [HXO.out]; exact B2) hg2
    have C02 := (ChR.of_below HB01.out L [146, 109, 221] L T).trans C2
    have D := Lib.hid (HD.out w2 N T2 C02)
    have C02' := Lib.hid C02
    have HO2 := Lib.hid (HK1.out.2.grown hg2 (by intro e; injection e with e; exact hns.2 e))
    clear T2 C2 C02 B2 b2 k12 hg2 HK1 HT1 HD k1 b1
    refine D.out.mono ?_
    rintro e w3 ⟨r, rfl, ⟨g, A3, cc3, rfl, hP⟩, hT3, hC3⟩
    have hP : PosP w2 bs (.slice (some ⟨g, 0, none⟩) 1 1) w3 := ⟨g, A3, cc3, rfl, hP⟩
    have BO3 := HO2.out.chR hC3 (by decide) (by have := hT3.ts; have := H.out.tz; omega)
    have C3 := Lib.hid (C02'.out.trans hC3)
    have c3 := BO3.cell
    have f3 := BO3.frozen
    have HBO := Lib.hid BO3
    have HP3 := Lib.hid hP
    have HT3 := Lib.hid hT3
    have HZ2 := Lib.hid C02'.out.size
    clear BO3 hP hT3 hC3 D HO2
    go_wp2_with fail
    refine leaves_cons (f := 54) (args := #[.pointer (some ⟨w.heap.size + 1, 0, none⟩)]) (by simp) (by simp [go_sem]) ?_
    refine (catch_idle ⟨w.heap.size + 1, 0, none⟩ _).mono ?_
    rintro e u' w'' ⟨rfl, rfl, rfl⟩
    have FIN : DoP w L T s m l y bs (.returned (.tuple #[.slice (some ⟨g, 0, none⟩) 1 1, .int .i64 0])) (w3.setCell ⟨w.heap.size + 1, 0, none⟩ (.slice (some ⟨g, 0, none⟩) 1 1)) :=
      have h78 := ch78 HBO.out (.slice (some ⟨g, 0, none⟩) 1 1)
      ⟨_, rfl, (HP3.out.from_ HZ2.out).ch78 h78, (HT3.out.ch78 h78).more (by have := h78.size; omega) (Nat.le_refl _), Chg.set_ (C3.out) (p := ⟨w.heap.size + 1, 0, none⟩) (fun hlt => absurd hlt (by show ¬ (w.heap.size + 1 < w.heap.size); omega)) _⟩
    have HFIN := Lib.hid FIN
    clear FIN
    simp [Leaves, settle, results, Try.results32, go_sem, c3]
    exact HFIN.out
set_option maxHeartbeats 4000000 in
theorem do_flt {w : World} {L T N s m l : Nat} {x y : St} (h : TA w L T N s m l x) (c : Cm) (hw : c.wf) {bb : List Int} (hbl : bb.length = c.bn) (h10 : c.bn ≤ 1000) (hr : Rd w w.heap.size c.bA (u8s bb)) (hp : putE c = 0) (hc : c.code < 18) (h9 : c.code ≠ 9) (hon : x.on = true ∨ c.code = 1) (v : Value) {f : Int} (hf : 0 ≤ f ∧ f ≤ 255)
    (hd : ∀ w1 N1, TA w1 L T N1 s m l { x with block := 0 } → ChS L T w w1 → Calls Try.prog 56 #[.pointer (some ⟨s, 0, none⟩), c.val, v] w1 (FltS w1 L T s m l y f)) :
    Calls Try.prog 32 #[.pointer (some ⟨s, 0, none⟩), c.val, v] w (DoN w L T s m l y f) := by
  have hmf : ∀ (fn : Fn) (first cap : Array Value) (w : World), (Instr.makeFunc fn first cap).run Try.prog w = .ok (.func fn first cap) w := fun _ _ _ _ => rfl
  have hb2 := bl2 w (.cells c.cs.toArray 35) (.cells #[.slice none 0 0] 78)
  have PC := Lib.hid (putc_any c bb _ hw hbl h10 (hr.bel hb2))
  rw [hp] at PC
  have H := Lib.hid h
  have HD := Lib.hid hd
  have HB2 := Lib.hid hb2
  obtain ⟨K1, K2, hbW⟩ := blk2 (W := (w.alloc (.cells c.cs.toArray 35)).alloc (.cells #[.slice none 0 0] 78)) rfl
  have HK := Lib.hid (⟨K1, K2⟩ : Blk _ w.heap.size 35 c.cs.toArray ∧ Blk _ (w.heap.size + 1) 78 #[.slice none 0 0])
  have k1 := K1.cell
  have k2 := K2.cell
  have f2 := K2.frozen
  have hcd : decide ((18 : Int) ≤ c.code) = false := decide_eq_false (by omega)
  have h9d : (c.code != 9) = true := by simpa using h9
  obtain ⟨code, a0, a1, a2, a3, a4, cw, bA, bn, bc⟩ := c
  clear h hr hp hb2 K1 K2 hd hw h9
  go_enter_defers Try.func32, Try.ntmps32
  go_wp2_with fail
  refine PC.out.mono ?_
  rintro e w1 ⟨V1, rfl, hb1⟩
  have hb01 := HB2.out.trans (hb1.mono HB2.out.size)
  have T1 := H.out.below hb01
  have B1 : Blk w1 s 146 #[.pointer (some ⟨m, 0, none⟩), .pointer (some ⟨l, 0, none⟩), .bool x.on, .int .u8 x.area, .int .u32 x.pt, .int .i64 x.block] := T1.sl
  have k1 := (HK.out.1.below hb1).cell
  have b1 := B1.cell
  have HT1 := Lib.hid T1
  have HB01 := Lib.hid hb01
  have HK1 := Lib.hid (⟨HK.out.1.below hb1, HK.out.2.below hb1⟩ : Blk w1 w.heap.size 35 (⟨code, a0, a1, a2, a3, a4, cw, bA, bn, bc⟩ : Cm).cs.toArray ∧ Blk w1 (w.heap.size + 1) 78 #[.slice none 0 0])
  have hns : w.heap.size ≠ s ∧ w.heap.size + 1 ≠ s := by have := H.out.sl.lt; omega
  have hon' : x.on = true ∨ (x.on = false ∧ code = 1) := by
    rcases hon with h | h
    · exact .inl h
    · cases hx : x.on
      · exact .inr ⟨rfl, h⟩
      · exact .inl rfl
  obtain ⟨on, hxo⟩ : ∃ on, x.on = on := ⟨_, rfl⟩
  have HXO := Lib.hid hxo
  rw [hxo] at B1 b1 hon'
  clear PC HK T1 hb01 hb1 f2 hon hxo
  rcases hon' with rfl | ⟨rfl, rfl⟩
  all_goals
    go_wp2_with (refine wpList_stB rfl 3 (.tmp 40) (.const (.int .i64 0)) rfl (.int .i64 0) 5 rfl rfl B1 (by simp [Value.cells]) (by kernel_rfl) (by simp [Value.cells, Value.oneCell']) ?_; intro w2 B2 hg2; have B2 : Blk w2 s 146 #[.pointer (some ⟨m, 0, none⟩), .pointer (some ⟨l, 0, none⟩), .bool _, .int .u8 x.area, .int .u32 x.pt, .int .i64 0] := B2; have b2 := B2.cell; have k12 := (HK1.out.1.grown hg2 (by intro e; injection e with e; exact hns.1 e)).cell)
    obtain ⟨T2, C2⟩ := HT1.out.slw (y := { x with block := 0 }) ⟨rfl, rfl⟩ ⟨H.out.k.a0, H.out.k.a1, H.out.k.p0, H.out.k.p1⟩ (by rw [HXO.out]; exact B2) hg2
    have C02 := (ChR.of_below HB01.out L [146, 109, 221] L T).trans C2
    have D := Lib.hid (HD.out w2 N T2 C02)
    have C02' := Lib.hid C02
    have HO2 := Lib.hid (HK1.out.2.grown hg2 (by intro e; injection e with e; exact hns.2 e))
    clear T2 C2 C02 B2 b2 k12 hg2 HK1 HT1 HD k1 b1
    refine D.out.mono ?_
    rintro e w3 ⟨rfl, hT3, hC3⟩
    have BO3 := HO2.out.chR hC3 (by decide) (by have := hT3.ts; have := H.out.tz; omega)
    have C3 := Lib.hid (C02'.out.trans hC3)
    have HBO := Lib.hid BO3
    have HT3 := Lib.hid hT3
    have HZ2 := Lib.hid (Nat.le_trans C02'.out.size hC3.size)
    clear BO3 hT3 hC3 D HO2
    refine leaves_cons (f := 54) (args := #[.pointer (some ⟨w.heap.size + 1, 0, none⟩)]) (by simp) (by simp [go_sem]) ?_
    refine (catch_flt (w.heap.size + 1) (.slice none 0 0) f hf w3 HBO.out).mono ?_
    rintro e u' w'' ⟨rfl, rfl, rfl⟩
    have hb4 := bl1 w3 (.cells #[.int .u8 2, .int .u8 f, .slice none 0 0] 82)
    have BO4 := HBO.out.below hb4
    have h78 := ch78 BO4 (.slice (some ⟨w3.heap.size, 0, none⟩) 1 1)
    have c4 := BO4.cell
    have FIN : DoN w L T s m l y f (.returned (.tuple #[.slice (some ⟨w3.heap.size, 0, none⟩) 1 1, .int .i64 0])) ((w3.alloc (.cells #[.int .u8 2, .int .u8 f, .slice none 0 0] 82)).setCell ⟨w.heap.size + 1, 0, none⟩ (.slice (some ⟨w3.heap.size, 0, none⟩) 1 1)) :=
      ⟨w3.heap.size, rfl, HZ2.out, (Blk.new w3 82 _).chT h78 (by decide), ((HT3.out.below hb4).ch78 h78).more (by have := h78.size; have := hb4.size; omega) (Nat.le_refl _), Chg.set_ (C3.out.grow hb4) (p := ⟨w.heap.size + 1, 0, none⟩) (fun hlt => absurd hlt (by show ¬ (w.heap.size + 1 < w.heap.size); omega)) _⟩
    have HFIN := Lib.hid FIN
    clear FIN h78 BO4 hb4
    simp [Leaves, settle, results, Try.results32, go_sem, c4]
    exact HFIN.out
end Go.Proofs.Yteecgdbicokgoaa
