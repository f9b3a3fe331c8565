/- Do and does, where an answer may lie in a row with room. -/
import Derived.Test.YteecgdbicokgoaaR2
import Derived.Test.YteecgdbicokgoaaD1
namespace Go.Proofs.Yteecgdbicokgoaa
open Go.RowKit Go.Shelf
set_option linter.unusedVariables false
set_option linter.unusedSimpArgs false
set_option maxRecDepth 100000
def DoQ (w : World) (L T s m l : Nat) (x : St) (bs : List Int) (e : Ending) (w' : World) : Prop := ∃ v, e = .returned (.tuple #[v, .int .i64 0]) ∧ PosQ w bs v w' ∧ TA w' L T w'.heap.size s m l x ∧ ChS L T w w'
theorem Own.of_blk {w : World} {base g size : Nat} {t : TypeId} {cs : Array Value} (h : Blk w g t cs) (hb : base ≤ g) (hs : cs.size = size) : Own w base t size (some ⟨g, 0, none⟩) 1 1 cs.toList :=
  ⟨by simp [hs], Nat.le_refl _, by decide, (fun h => by cases h), fun a e => by
    injection e with e
    subst e
    exact ⟨g, 0, cs, rfl, hb, h, by omega, by rw [List.drop_zero, Nat.one_mul, ← hs]; exact List.take_of_length_le (by simp)⟩⟩
theorem PosP.q {w w' : World} {bs : List Int} {v : Value} (h : PosP w bs v w') : PosQ w bs v w' := by
  obtain ⟨g, A, c, rfl, h2, h3, h4⟩ := h
  exact ⟨g, 0, 1, A, c, rfl, Own.of_blk h3 h2 rfl, h4⟩
theorem DoP.q {w w' : World} {L T s m l : Nat} {x : St} {bs : List Int} {e : Ending} (h : DoP w L T s m l x bs e w') : DoQ w L T s m l x bs e w' := by
  obtain ⟨v, h1, h2, h3, h4⟩ := h
  exact ⟨v, h1, h2.q, h3, h4⟩
theorem PosQ.ch78 {w w1 w' : World} {bs : List Int} {v : Value} (h : PosQ w bs v w1) (hc : ChT 0 [78] w1 w') : PosQ w bs v w' := by
  obtain ⟨g, o, k, A, c, h1, h2, h3⟩ := h
  exact ⟨g, o, k, A, c, h1, h2.chT hc (by decide), h3.chT hc (by decide)⟩
set_option maxHeartbeats 4000000 in
theorem do_ansQ {w : World} {L T N s m l : Nat} {x y : St} (h : TA w L T N s m l x) (c : Cm) (hw : c.wf) {bb : List Int} (hbl : bb.length = c.bn) (h10 : c.bn ≤ 1000) (hr : Rd w w.heap.size c.bA (u8s bb)) (hp : putE c = 0) (hc : c.code < 18) (h9 : c.code ≠ 9) (hon : x.on = true ∨ c.code = 1) (v : Value) {bs : List Int}
    (hd : ∀ w1 N1, TA w1 L T N1 s m l { x with block := 0 } → ChS L T w w1 → Calls Try.prog 56 #[.pointer (some ⟨s, 0, none⟩), c.val, v] w1 (AnsQ w1 L T s m l y bs)) :
    Calls Try.prog 32 #[.pointer (some ⟨s, 0, none⟩), c.val, v] w (DoQ w L T s m l y bs) := by
  have hmf : ∀ (fn : Fn) (first cap : Array Value) (w : World), (Instr.makeFunc fn first cap).run Try.prog w = .ok (.func fn first cap) w := fun _ _ _ _ => rfl
  have hb2 := bl2 w (.cells c.cs.toArray 35) (.cells #[.slice none 0 0] 78)
  have PC := Lib.hid (putc_any c bb _ hw hbl h10 (hr.bel hb2))
  rw [hp] at PC
  have H := Lib.hid h
  have HD := Lib.hid hd
  have HB2 := Lib.hid hb2
  obtain ⟨K1, K2, hbW⟩ := blk2 (W := (w.alloc (.cells c.cs.toArray 35)).alloc (.cells #[.slice none 0 0] 78)) rfl
  have HK := Lib.hid (⟨K1, K2⟩ : Blk _ w.heap.size 35 c.cs.toArray ∧ Blk _ (w.heap.size + 1) 78 #[.slice none 0 0])
  have k1 := K1.cell
  have k2 := K2.cell
  have f2 := K2.frozen
  have hcd : decide ((18 : Int) ≤ c.code) = false := decide_eq_false (by omega)
  have h9d : (c.code != 9) = true := by simpa using h9
  obtain ⟨code, a0, a1, a2, a3, a4, cw, bA, bn, bc⟩ := c
  clear h hr hp hb2 K1 K2 hd hw h9
  go_enter_defers Try.func32, Try.ntmps32
  go_wp2_with fail
  refine PC.out.mono ?_
  rintro e w1 ⟨V1, rfl, hb1⟩
  have hb01 := HB2.out.trans (hb1.mono HB2.out.size)
  have T1 := H.out.below hb01
  have B1 : Blk w1 s 146 #[.pointer (some ⟨m, 0, none⟩), .pointer (some ⟨l, 0, none⟩), .bool x.on, .int .u8 x.area, .int .u32 x.pt, .int .i64 x.block] := T1.sl
  have k1 := (HK.out.1.below hb1).cell
  have b1 := B1.cell
  have HT1 := Lib.hid T1
  have HB01 := Lib.hid hb01
  have HK1 := Lib.hid (⟨HK.out.1.below hb1, HK.out.2.below hb1⟩ : Blk w1 w.heap.size 35 (⟨code, a0, a1, a2, a3, a4, cw, bA, bn, bc⟩ : Cm).cs.toArray ∧ Blk w1 (w.heap.size + 1) 78 #[.slice none 0 0])
  have hns : w.heap.size ≠ s ∧ w.heap.size + 1 ≠ s := by have := H.out.sl.lt; omega
  have hon' : x.on = true ∨ (x.on = false ∧ code = 1) := by
    rcases hon with h | h
    · exact .inl h
    · cases hx : x.on
      · exact .inr ⟨rfl, h⟩
      · exact .inl rfl
  obtain ⟨on, hxo⟩ : ∃ on, x.on = on := ⟨_, rfl⟩
  have HXO := Lib.hid hxo
  rw [hxo] at B1 b1 hon'
  clear PC HK T1 hb01 hb1 f2 hon hxo
  rcases hon' with rfl | ⟨rfl, rfl⟩
  all_goals
    go_wp2_with (refine wpList_stB rfl 3 (.tmp 40) (.const (.int .i64 0)) rfl (.int .i64 0) 5 rfl rfl B1 (by simp [Value.cells]) (by kernel_rfl) (by simp [Value.cells, Value.oneCell']) ?_; intro w2 B2 hg2; have B2 : Blk w2 s 146 #[.pointer (some ⟨m, 0, none⟩), .pointer (some ⟨l, 0, none⟩), .bool _, .int .u8 x.area, .int .u32 x.pt, .int .i64 0] := B2; have b2 := B2.cell; have k12 := (HK1.out.1.grown hg2 (by intro e; injection e with e; exact hns.1 e)).cell)
    obtain ⟨T2, C2⟩ := HT1.out.slw (y := { x with block := 0 }) ⟨rfl, rfl⟩ ⟨H.out.k.a0, H.out.k.a1, H.out.k.p0, H.out.k.p1⟩ (by rw [HXO.out]; exact B2) hg2
    have C02 := (ChR.of_below HB01.out L [146, 109, 221] L T).trans C2
    have D := Lib.hid (HD.out w2 N T2 C02)
    have C02' := Lib.hid C02
    have HO2 := Lib.hid (HK1.out.2.grown hg2 (by intro e; injection e with e; exact hns.2 e))
    clear T2 C2 C02 B2 b2 k12 hg2 HK1 HT1 HD k1 b1
    refine D.out.mono ?_
    rintro e w3 ⟨r, rfl, ⟨g, o3, k3, A3, cc3, rfl, hP⟩, hT3, hC3⟩
    have hP : PosQ w2 bs (.slice (some ⟨g, o3, none⟩) 1 k3) w3 := ⟨g, o3, k3, A3, cc3, rfl, hP⟩
    have BO3 := HO2.out.chR hC3 (by decide) (by have := hT3.ts; have := H.out.tz; omega)
    have C3 := Lib.hid (C02'.out.trans hC3)
    have c3 := BO3.cell
    have f3 := BO3.frozen
    have HBO := Lib.hid BO3
    have HP3 := Lib.hid hP
    have HT3 := Lib.hid hT3
    have HZ2 := Lib.hid C02'.out.size
    clear BO3 hP hT3 hC3 D HO2
    go_wp2_with fail
    refine leaves_cons (f := 54) (args := #[.pointer (some ⟨w.heap.size + 1, 0, none⟩)]) (by simp) (by simp [go_sem]) ?_
    refine (catch_idle ⟨w.heap.size + 1, 0, none⟩ _).mono ?_
    rintro e u' w'' ⟨rfl, rfl, rfl⟩
    have FIN : DoQ w L T s m l y bs (.returned (.tuple #[.slice (some ⟨g, o3, none⟩) 1 k3, .int .i64 0])) (w3.setCell ⟨w.heap.size + 1, 0, none⟩ (.slice (some ⟨g, o3, none⟩) 1 k3)) :=
      have h78 := ch78 HBO.out (.slice (some ⟨g, o3, none⟩) 1 k3)
      ⟨_, rfl, (HP3.out.from_ HZ2.out).ch78 h78, (HT3.out.ch78 h78).more (by have := h78.size; omega) (Nat.le_refl _), Chg.set_ (C3.out) (p := ⟨w.heap.size + 1, 0, none⟩) (fun hlt => absurd hlt (by show ¬ (w.heap.size + 1 < w.heap.size); omega)) _⟩
    have HFIN := Lib.hid FIN
    clear FIN
    simp [Leaves, settle, results, Try.results32, go_sem, c3]
    exact HFIN.out
set_option maxHeartbeats 4000000 in
theorem does_okQ {w : World} {L T N s m l : Nat} {xs : Nat → St} {cl : List Cm} {bl : List (List Int)} (hbl : bl.length = cl.length) (h10 : cl.length ≤ 1000) {A : Option Addr} {c base : Nat} (hb : T ≤ base) (ho : Own w base 35 8 A cl.length c (cmcells cl)) (v : Value) (h0 : TA w L T N s m l (xs 0))
    (hstep : ∀ i cm b, cl[i]? = some cm → bl[i]? = some b → ∀ wr Nr, TA wr L T Nr s m l (xs i) → ChS L T w wr → Calls Try.prog 32 #[.pointer (some ⟨s, 0, none⟩), cm.val, v] wr (DoQ wr L T s m l (xs (i + 1)) b)) (hv : ∃ a n k, v = .slice a n k) :
    Calls Try.prog 8 #[.pointer (some ⟨s, 0, none⟩), .slice A cl.length c, v] w fun e w' => ∃ A' c' vs, e = .returned (.tuple #[.slice A' cl.length c', .int .u8 0]) ∧ TA w' L T w'.heap.size s m l (xs cl.length) ∧ ChS L T w w' ∧ Own w' w.heap.size 22 1 A' cl.length c' vs ∧ RowsB w' w.heap.size vs bl := by
  obtain ⟨va, vn, vk, rfl⟩ := hv
  have H0 := Lib.hid (And.intro h0 (And.intro ho (And.intro hbl (And.intro h10 hb))))
  have HST := Lib.hid hstep
  have HN := Lib.hid (And.intro (Own.nil w w.heap.size 22 1) (ChR.refl L [146, 109, 221] L T w))
  clear hstep h0 ho hbl h10 hb
  go_enter Try.func8, Try.ntmps8
  go_wp2_with fail
  go_loopw [8, 15] (fun acc iv wr => ∃ (k : Nat) (A' : Option Addr) (c' : Nat) (vs : List Value) (Nr : Nat), k ≤ cl.length ∧ iv = .int .i64 k ∧ acc = .slice A' k c' ∧ Own wr w.heap.size 22 1 A' k c' vs ∧ RowsB wr w.heap.size vs (bl.take k) ∧ TA wr L T Nr s m l (xs k) ∧ ChS L T w wr) (fun _ iv _ => cl.length - (intOf iv).toNat)
  case atStart => exact ⟨0, none, 0, [], N, Nat.zero_le _, rfl, rfl, HN.out.1, ⟨rfl, fun i b hi => by simp at hi⟩, H0.out.1, HN.out.2⟩
  case round =>
    obtain ⟨k, A', c', vs, Nr, hk, rfl, rfl, hO, hR, hTA, hC⟩ := hrel
    by_cases hlt : k < cl.length
    · have hltI : (k : Int) < cl.length := by omega
      obtain ⟨cmd, hcm⟩ : ∃ x, cl[k]? = some x := ⟨_, List.getElem?_eq_getElem hlt⟩
      obtain ⟨b, hb⟩ : ∃ x, bl[k]? = some x := ⟨_, List.getElem?_eq_getElem (by rw [H0.out.2.2.1]; exact hlt)⟩
      have HS := Lib.hid (HST.out k cmd b hcm hb)
      have hoR := H0.out.2.1.chR' hC (by decide) H0.out.2.2.2.2
      obtain ⟨g, o, rfl⟩ := hoR.at_ (by omega)
      have hcell : ∀ j u, cmd.cs[j]? = some u → wr.cell? ⟨g, o + (k * 8 + j), none⟩ = some u := fun j u hu => hoR.cells _ _ (by
        have := flatC_at Cm.cs 8 cl (fun t _ => rfl) k cmd hcm j u hu
        exact this)
      have HL := Lib.hid (And.intro hO (And.intro hR (And.intro hTA (And.intro hC (And.intro hcm hb)))))
      have hc' : ∀ j u, cmd.cs[j]? = some u → wr.cell? ⟨g, o + k * 8 + j, none⟩ = some u := fun j u hu => by rw [Nat.add_assoc]; exact hcell j u hu
      have z0 := hc' 0 _ rfl
      have z1 := hc' 1 _ rfl
      have z2 := hc' 2 _ rfl
      have z3 := hc' 3 _ rfl
      have z4 := hc' 4 _ rfl
      have z5 := hc' 5 _ rfl
      have z6 := hc' 6 _ rfl
      have z7 := hc' 7 _ rfl
      simp only [Nat.add_zero] at z0
      have hbk := bl1 wr (.cells cmd.cs.toArray 35)
      have BR := (Blk.new wr 35 cmd.cs.toArray).cell
      have HTA := Lib.hid (hTA.below hbk)
      have HC := Lib.hid (hC.grow hbk)
      clear hO hR hTA hC hcm hb hoR HST hcell hc' hbk
      have HIs := Lib.hid hk
      clear hk
      go_wp2_with fail
      refine (HS.out _ _ HTA.out HC.out).mono ?_
      rintro e w2 ⟨v2, rfl, ⟨g2, o2, k2, A2, c2, rfl, B2, hO2⟩, hT2, hC2⟩
      have hg2 := (B2.lt (g := g2) rfl).1
      have hCw := HC.out.trans hC2
      have hTw := H0.out.1.tz
      have hOa := (HL.out.1.below (bl1 wr (.cells cmd.cs.toArray 35))).chR' hC2 (by decide) hTw
      have b20 := B2.cells 0 _ rfl
      have b21 := B2.cells 1 _ rfl
      have b22 := B2.cells 2 _ rfl
      simp only [Nat.add_zero] at b20
      have HH := Lib.hid (And.intro hg2 (And.intro hO2 (And.intro hT2 (And.intro hC2 (And.intro hCw (And.intro hTw hOa))))))
      clear hg2 hO2 hT2 hC2 hCw hTw hOa B2 BR z0 z1 z2 z3 z4 z5 z6 z7
      have HR5 := Lib.hid (Blk.rd (cs := [.slice A2 b.length c2]) (Blk.new w2 22 #[.slice A2 b.length c2]))
      have HO5 := Lib.hid (HH.out.2.2.2.2.2.2.alloc (.cells #[.slice A2 b.length c2] 22))
      have hm1 : k + 1 ≤ maxLen := by have := H0.out.2.2.2.1; unfold maxLen; omega
      have hm2 : (k + 1) * 24 ≤ 140737488355328 := by have := H0.out.2.2.2.1; omega
      have hm3 : w.heap.size ≤ (w2.alloc (.cells #[.slice A2 b.length c2] 22)).heap.size := by have := HH.out.2.2.2.2.1.size; simp; omega
      have HM := Lib.hid (And.intro hm1 (And.intro hm2 hm3))
      clear hm1 hm2 hm3
      go_wp2_with (at_builtin; refine wpList_app _ rfl (.tmp 42) (.tmp 47) 29 rfl w.heap.size 22 (.slice none 0 0) 1 24 Try.underlying29 info22 rfl (by decide) A' k c' vs rfl HO5.out _ _ 1 1 [.slice A2 b.length c2] rfl rfl HR5.out (by simp [Value.oneCell']) HM.out.1 HM.out.2.1 HM.out.2.2 ?_; intro A5 c5 w5 ho5 hg5 hbk5)
      obtain ⟨hg2, hO2, hT2, hC2, hCw, hTw, hOa⟩ := HH.out
      have hb5 : Below w2.heap.size w2 (w2.alloc (.cells #[.slice A2 b.length c2] 22)) := bl1 _ _
      have hC5 : ChS L T w w5 := by
        refine Chg.trans (hCw.grow hb5) (Chg.of_grown hg5) (fun i hi h => ?_)
        have := (HO5.out.lt h.symm).1
        omega
      have hRr := (HL.out.2.1.chR (ChR.of_below (bl1 wr (.cells cmd.cs.toArray 35)) L [146, 109, 221] L T) (by decide) hTw).chR hC2 (by decide) hTw
      have hRA := (hRr.chR (ChR.of_below hb5 L [146, 109, 221] L T) (by decide) hTw).snoc ((hO2.more (base' := w.heap.size) (by have := HL.out.2.2.2.1.size; simp; omega)).below hb5)
      have hTA5 := hT2.below hb5
      have hfin : RowsB w5 w.heap.size (vs ++ [.slice A2 b.length c2]) (bl.take k ++ [b]) ∧ TA w5 L T w2.heap.size s m l (xs (k + 1)) := by
        rcases hA : blkOf A' with _ | q
        · rw [hA] at hg5
          have hbn : Below (w2.alloc (.cells #[.slice A2 b.length c2] 22)).heap.size (w2.alloc (.cells #[.slice A2 b.length c2] 22)) w5 := ⟨hg5.os, hg5.tape, hg5.output, hg5.size, fun j hj => hg5.block j hj (by simp)⟩
          exact ⟨hRA.chR (ChR.of_below hbn L [146, 109, 221] L T) (by decide) hTw, hTA5.below hbn⟩
        · rw [hA] at hg5
          obtain ⟨cs, hcs⟩ := HO5.out.row hA
          exact ⟨hRA.row hg5 hcs (by decide), hTA5.row hg5 hcs (by decide) (by decide) (by decide) (by decide) (Nat.le_trans hTw (HO5.out.lt hA).1)⟩
      have htk : bl.take (k + 1) = bl.take k ++ [b] := by rw [List.take_add_one, HL.out.2.2.2.2.2]; rfl
      have hk1 := H0.out.2.2.2.1
      have hkN : k < 1000 := by omega
      have hkI : (k : Int) < 1000 := by omega
      have hkp : (0 : Int) ≤ k := by omega
      have hw6 : wrap64 ((k : Int) + 1) = (k : Int) + 1 := by unfold wrap64; omega
      go_roundw
      case rel => exact ⟨k + 1, A5, c5, _, w2.heap.size, hlt, congrArg (Value.int .i64) (by first | (rw [hw6]; omega) | omega), rfl, ho5, by rw [htk]; exact hfin.1, hfin.2, hC5⟩
      case measure =>
        rw [hw6]
        simp only [intOf]
        exact meas_lt hlt
    · obtain rfl : k = cl.length := by omega
      have HF := Lib.hid (And.intro hO (And.intro hR (And.intro hTA hC)))
      clear hO hR hTA hC hk hlt
      go_wp2_with fail
      go_ret2
      obtain ⟨hO, hR, hTA, hC⟩ := HF.out
      rw [List.take_of_length_le (by rw [H0.out.2.2.1]; exact Nat.le_refl _)] at hR
      exact ⟨A', c', vs, rfl, hTA.more (by exact hTA.n) (Nat.le_refl _), hC, hO, hR⟩
set_option maxHeartbeats 4000000 in
theorem does_noQ {w : World} {L T N s m l : Nat} {xs : Nat → St} {cl : List Cm} {bl : List (List Int)} (hbl : bl.length < cl.length) (h10 : cl.length ≤ 1000) {A : Option Addr} {c base : Nat} (hb : T ≤ base) (ho : Own w base 35 8 A cl.length c (cmcells cl)) (v : Value) (h0 : TA w L T N s m l (xs 0))
    (hstep : ∀ i cm b, cl[i]? = some cm → bl[i]? = some b → ∀ wr Nr, TA wr L T Nr s m l (xs i) → ChS L T w wr → Calls Try.prog 32 #[.pointer (some ⟨s, 0, none⟩), cm.val, v] wr (DoQ wr L T s m l (xs (i + 1)) b)) {y : St} {f : Int} (hf : f ≠ 0)
    (hflt : ∀ cm, cl[bl.length]? = some cm → ∀ wr Nr, TA wr L T Nr s m l (xs bl.length) → ChS L T w wr → Calls Try.prog 32 #[.pointer (some ⟨s, 0, none⟩), cm.val, v] wr (DoN wr L T s m l y f)) (hv : ∃ a n k, v = .slice a n k) :
    Calls Try.prog 8 #[.pointer (some ⟨s, 0, none⟩), .slice A cl.length c, v] w fun e w' => e = .returned (.tuple #[.slice none 0 0, .int .u8 f]) ∧ TA w' L T w'.heap.size s m l y ∧ ChS L T w w' := by
  obtain ⟨va, vn, vk, rfl⟩ := hv
  have H0 := Lib.hid (And.intro h0 (And.intro ho (And.intro hbl (And.intro h10 hb))))
  have HST := Lib.hid hstep
  have HFT := Lib.hid hflt
  have HN := Lib.hid (And.intro (Own.nil w w.heap.size 22 1) (ChR.refl L [146, 109, 221] L T w))
  clear hstep hflt h0 ho hbl h10 hb
  go_enter Try.func8, Try.ntmps8
  go_wp2_with fail
  go_loopw [8, 15] (fun acc iv wr => ∃ (k : Nat) (A' : Option Addr) (c' : Nat) (vs : List Value) (Nr : Nat), k ≤ bl.length ∧ iv = .int .i64 k ∧ acc = .slice A' k c' ∧ Own wr w.heap.size 22 1 A' k c' vs ∧ RowsB wr w.heap.size vs (bl.take k) ∧ TA wr L T Nr s m l (xs k) ∧ ChS L T w wr) (fun _ iv _ => cl.length - (intOf iv).toNat)
  case atStart => exact ⟨0, none, 0, [], N, Nat.zero_le _, rfl, rfl, HN.out.1, ⟨rfl, fun i b hi => by simp at hi⟩, H0.out.1, HN.out.2⟩
  case round =>
    obtain ⟨k, A', c', vs, Nr, hk, rfl, rfl, hO, hR, hTA, hC⟩ := hrel
    by_cases hlt0 : k < bl.length
    · have hlt : k < cl.length := by have := H0.out.2.2.1; omega
      have hltI : (k : Int) < cl.length := by omega
      obtain ⟨cmd, hcm⟩ : ∃ x, cl[k]? = some x := ⟨_, List.getElem?_eq_getElem hlt⟩
      obtain ⟨b, hb⟩ : ∃ x, bl[k]? = some x := ⟨_, List.getElem?_eq_getElem hlt0⟩
      have HS := Lib.hid (HST.out k cmd b hcm hb)
      have hoR := H0.out.2.1.chR' hC (by decide) H0.out.2.2.2.2
      obtain ⟨g, o, rfl⟩ := hoR.at_ (by omega)
      have hcell : ∀ j u, cmd.cs[j]? = some u → wr.cell? ⟨g, o + (k * 8 + j), none⟩ = some u := fun j u hu => hoR.cells _ _ (by
        have := flatC_at Cm.cs 8 cl (fun t _ => rfl) k cmd hcm j u hu
        exact this)
      have HL := Lib.hid (And.intro hO (And.intro hR (And.intro hTA (And.intro hC (And.intro hcm hb)))))
      have hc' : ∀ j u, cmd.cs[j]? = some u → wr.cell? ⟨g, o + k * 8 + j, none⟩ = some u := fun j u hu => by rw [Nat.add_assoc]; exact hcell j u hu
      have z0 := hc' 0 _ rfl
      have z1 := hc' 1 _ rfl
      have z2 := hc' 2 _ rfl
      have z3 := hc' 3 _ rfl
      have z4 := hc' 4 _ rfl
      have z5 := hc' 5 _ rfl
      have z6 := hc' 6 _ rfl
      have z7 := hc' 7 _ rfl
      simp only [Nat.add_zero] at z0
      have hbk := bl1 wr (.cells cmd.cs.toArray 35)
      have BR := (Blk.new wr 35 cmd.cs.toArray).cell
      have HTA := Lib.hid (hTA.below hbk)
      have HC := Lib.hid (hC.grow hbk)
      clear hO hR hTA hC hcm hb hoR HST hcell hc' hbk
      have HIs := Lib.hid hk
      clear hk
      go_wp2_with fail
      refine (HS.out _ _ HTA.out HC.out).mono ?_
      rintro e w2 ⟨v2, rfl, ⟨g2, o2, k2, A2, c2, rfl, B2, hO2⟩, hT2, hC2⟩
      have hg2 := (B2.lt (g := g2) rfl).1
      have hCw := HC.out.trans hC2
      have hTw := H0.out.1.tz
      have hOa := (HL.out.1.below (bl1 wr (.cells cmd.cs.toArray 35))).chR' hC2 (by decide) hTw
      have b20 := B2.cells 0 _ rfl
      have b21 := B2.cells 1 _ rfl
      have b22 := B2.cells 2 _ rfl
      simp only [Nat.add_zero] at b20
      have HH := Lib.hid (And.intro hg2 (And.intro hO2 (And.intro hT2 (And.intro hC2 (And.intro hCw (And.intro hTw hOa))))))
      clear hg2 hO2 hT2 hC2 hCw hTw hOa B2 BR z0 z1 z2 z3 z4 z5 z6 z7
      have HR5 := Lib.hid (Blk.rd (cs := [.slice A2 b.length c2]) (Blk.new w2 22 #[.slice A2 b.length c2]))
      have HO5 := Lib.hid (HH.out.2.2.2.2.2.2.alloc (.cells #[.slice A2 b.length c2] 22))
      have hm1 : k + 1 ≤ maxLen := by have := H0.out.2.2.2.1; unfold maxLen; omega
      have hm2 : (k + 1) * 24 ≤ 140737488355328 := by have := H0.out.2.2.2.1; omega
      have hm3 : w.heap.size ≤ (w2.alloc (.cells #[.slice A2 b.length c2] 22)).heap.size := by have := HH.out.2.2.2.2.1.size; simp; omega
      have HM := Lib.hid (And.intro hm1 (And.intro hm2 hm3))
      clear hm1 hm2 hm3
      go_wp2_with (at_builtin; refine wpList_app _ rfl (.tmp 42) (.tmp 47) 29 rfl w.heap.size 22 (.slice none 0 0) 1 24 Try.underlying29 info22 rfl (by decide) A' k c' vs rfl HO5.out _ _ 1 1 [.slice A2 b.length c2] rfl rfl HR5.out (by simp [Value.oneCell']) HM.out.1 HM.out.2.1 HM.out.2.2 ?_; intro A5 c5 w5 ho5 hg5 hbk5)
      obtain ⟨hg2, hO2, hT2, hC2, hCw, hTw, hOa⟩ := HH.out
      have hb5 : Below w2.heap.size w2 (w2.alloc (.cells #[.slice A2 b.length c2] 22)) := bl1 _ _
      have hC5 : ChS L T w w5 := by
        refine Chg.trans (hCw.grow hb5) (Chg.of_grown hg5) (fun i hi h => ?_)
        have := (HO5.out.lt h.symm).1
        omega
      have hRr := (HL.out.2.1.chR (ChR.of_below (bl1 wr (.cells cmd.cs.toArray 35)) L [146, 109, 221] L T) (by decide) hTw).chR hC2 (by decide) hTw
      have hRA := (hRr.chR (ChR.of_below hb5 L [146, 109, 221] L T) (by decide) hTw).snoc ((hO2.more (base' := w.heap.size) (by have := HL.out.2.2.2.1.size; simp; omega)).below hb5)
      have hTA5 := hT2.below hb5
      have hfin : RowsB w5 w.heap.size (vs ++ [.slice A2 b.length c2]) (bl.take k ++ [b]) ∧ TA w5 L T w2.heap.size s m l (xs (k + 1)) := by
        rcases hA : blkOf A' with _ | q
        · rw [hA] at hg5
          have hbn : Below (w2.alloc (.cells #[.slice A2 b.length c2] 22)).heap.size (w2.alloc (.cells #[.slice A2 b.length c2] 22)) w5 := ⟨hg5.os, hg5.tape, hg5.output, hg5.size, fun j hj => hg5.block j hj (by simp)⟩
          exact ⟨hRA.chR (ChR.of_below hbn L [146, 109, 221] L T) (by decide) hTw, hTA5.below hbn⟩
        · rw [hA] at hg5
          obtain ⟨cs, hcs⟩ := HO5.out.row hA
          exact ⟨hRA.row hg5 hcs (by decide), hTA5.row hg5 hcs (by decide) (by decide) (by decide) (by decide) (Nat.le_trans hTw (HO5.out.lt hA).1)⟩
      have htk : bl.take (k + 1) = bl.take k ++ [b] := by rw [List.take_add_one, HL.out.2.2.2.2.2]; rfl
      have hk1 := H0.out.2.2.2.1
      have hkN : k < 1000 := by omega
      have hkI : (k : Int) < 1000 := by omega
      have hkp : (0 : Int) ≤ k := by omega
      have hw6 : wrap64 ((k : Int) + 1) = (k : Int) + 1 := by unfold wrap64; omega
      go_roundw
      case rel => exact ⟨k + 1, A5, c5, _, w2.heap.size, hlt0, congrArg (Value.int .i64) (by first | (rw [hw6]; omega) | omega), rfl, ho5, by rw [htk]; exact hfin.1, hfin.2, hC5⟩
      case measure =>
        rw [hw6]
        simp only [intOf]
        exact meas_lt hlt
    · obtain rfl : k = bl.length := by omega
      have hlt : bl.length < cl.length := H0.out.2.2.1
      have hltI : (bl.length : Int) < cl.length := by omega
      obtain ⟨cmd, hcm⟩ : ∃ x, cl[bl.length]? = some x := ⟨_, List.getElem?_eq_getElem hlt⟩
      have HS := Lib.hid (HFT.out cmd hcm)
      have hoR := H0.out.2.1.chR' hC (by decide) H0.out.2.2.2.2
      obtain ⟨g, o, rfl⟩ := hoR.at_ (by omega)
      have hcell : ∀ j u, cmd.cs[j]? = some u → wr.cell? ⟨g, o + (bl.length * 8 + j), none⟩ = some u := fun j u hu => hoR.cells _ _ (by
        have := flatC_at Cm.cs 8 cl (fun t _ => rfl) bl.length cmd hcm j u hu
        exact this)
      have HL := Lib.hid (And.intro hO (And.intro hR (And.intro hTA (And.intro hC hcm))))
      have hc' : ∀ j u, cmd.cs[j]? = some u → wr.cell? ⟨g, o + bl.length * 8 + j, none⟩ = some u := fun j u hu => by rw [Nat.add_assoc]; exact hcell j u hu
      have z0 := hc' 0 _ rfl
      have z1 := hc' 1 _ rfl
      have z2 := hc' 2 _ rfl
      have z3 := hc' 3 _ rfl
      have z4 := hc' 4 _ rfl
      have z5 := hc' 5 _ rfl
      have z6 := hc' 6 _ rfl
      have z7 := hc' 7 _ rfl
      simp only [Nat.add_zero] at z0
      have hbk := bl1 wr (.cells cmd.cs.toArray 35)
      have BR := (Blk.new wr 35 cmd.cs.toArray).cell
      have HTA := Lib.hid (hTA.below hbk)
      have HC := Lib.hid (hC.grow hbk)
      clear hO hR hTA hC hcm hoR HST HFT hcell hc' hbk
      clear hk hlt0
      have hfI : (f == 0) = false := by simp [hf]
      go_wp2_with fail
      refine (HS.out _ _ HTA.out HC.out).mono ?_
      rintro e w2 ⟨g2, rfl, hg2, B2, hT2, hC2⟩
      have hCw := HC.out.trans hC2
      have b2 := B2.cell
      have HH := Lib.hid (And.intro hT2 hCw)
      clear hT2 hC2 hCw B2 BR z0 z1 z2 z3 z4 z5 z6 z7 hg2
      go_wp2_with (go_region)
      go_ret2
      exact ⟨rfl, HH.out.1.below ((Below.refl _ _).drew), HH.out.2.grow ((Below.refl _ _).drew)⟩
end Go.Proofs.Yteecgdbicokgoaa
