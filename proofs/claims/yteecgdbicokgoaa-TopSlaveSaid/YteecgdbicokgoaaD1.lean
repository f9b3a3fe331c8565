/- does: the first command that is refused ends it with its code. -/
import Derived.Test.YteecgdbicokgoaaD0
namespace Go.Proofs.Yteecgdbicokgoaa
open Go.RowKit Go.Shelf
set_option linter.unusedVariables false
set_option linter.unusedSimpArgs false
set_option maxRecDepth 100000
set_option maxHeartbeats 4000000 in
theorem does_no {w : World} {L T N s m l : Nat} {xs : Nat → St} {cl : List Cm} {bl : List (List Int)} (hbl : bl.length < cl.length) (h10 : cl.length ≤ 1000) {A : Option Addr} {c base : Nat} (hb : T ≤ base) (ho : Own w base 35 8 A cl.length c (cmcells cl)) (v : Value) (h0 : TA w L T N s m l (xs 0))
    (hstep : ∀ i cm b, cl[i]? = some cm → bl[i]? = some b → ∀ wr Nr, TA wr L T Nr s m l (xs i) → ChS L T w wr → Calls Try.prog 32 #[.pointer (some ⟨s, 0, none⟩), cm.val, v] wr (DoP wr L T s m l (xs (i + 1)) b)) {y : St} {f : Int} (hf : f ≠ 0)
    (hflt : ∀ cm, cl[bl.length]? = some cm → ∀ wr Nr, TA wr L T Nr s m l (xs bl.length) → ChS L T w wr → Calls Try.prog 32 #[.pointer (some ⟨s, 0, none⟩), cm.val, v] wr (DoN wr L T s m l y f)) (hv : ∃ a n k, v = .slice a n k) :
    Calls Try.prog 8 #[.pointer (some ⟨s, 0, none⟩), .slice A cl.length c, v] w fun e w' => e = .returned (.tuple #[.slice none 0 0, .int .u8 f]) ∧ TA w' L T w'.heap.size s m l y ∧ ChS L T w w' := by
  obtain ⟨va, vn, vk, rfl⟩ := hv
  have H0 := Lib.hid (And.intro h0 (And.intro ho (And.intro hbl (And.intro h10 hb))))
  have HST := Lib.hid hstep
  have HFT := Lib.hid hflt
  have HN := Lib.hid (And.intro (Own.nil w w.heap.size 22 1) (ChR.refl L [146, 109, 221] L T w))
  clear hstep hflt h0 ho hbl h10 hb
  go_enter Try.func8, Try.ntmps8
  go_wp2_with fail
  go_loopw [8, 15] (fun acc iv wr => ∃ (k : Nat) (A' : Option Addr) (c' : Nat) (vs : List Value) (Nr : Nat), k ≤ bl.length ∧ iv = .int .i64 k ∧ acc = .slice A' k c' ∧ Own wr w.heap.size 22 1 A' k c' vs ∧ RowsB wr w.heap.size vs (bl.take k) ∧ TA wr L T Nr s m l (xs k) ∧ ChS L T w wr) (fun _ iv _ => cl.length - (intOf iv).toNat)
  case atStart => exact ⟨0, none, 0, [], N, Nat.zero_le _, rfl, rfl, HN.out.1, ⟨rfl, fun i b hi => by simp at hi⟩, H0.out.1, HN.out.2⟩
  case round =>
    obtain ⟨k, A', c', vs, Nr, hk, rfl, rfl, hO, hR, hTA, hC⟩ := hrel
    by_cases hlt0 : k < bl.length
    · have hlt : k < cl.length := by have := H0.out.2.2.1; omega
      have hltI : (k : Int) < cl.length := by omega
      obtain ⟨cmd, hcm⟩ : ∃ x, cl[k]? = some x := ⟨_, List.getElem?_eq_getElem hlt⟩
      obtain ⟨b, hb⟩ : ∃ x, bl[k]? = some x := ⟨_, List.getElem?_eq_getElem hlt0⟩
      have HS := Lib.hid (HST.out k cmd b hcm hb)
      have hoR := H0.out.2.1.chR' hC (by decide) H0.out.2.2.2.2
      obtain ⟨g, o, rfl⟩ := hoR.at_ (by omega)
      have hcell : ∀ j u, cmd.cs[j]? = some u → wr.cell? ⟨g, o + (k * 8 + j), none⟩ = some u := fun j u hu => hoR.cells _ _ (by
        have := flatC_at Cm.cs 8 cl (fun t _ => rfl) k cmd hcm j u hu
        exact this)
      have HL := Lib.hid (And.intro hO (And.intro hR (And.intro hTA (And.intro hC (And.intro hcm hb)))))
      have hc' : ∀ j u, cmd.cs[j]? = some u → wr.cell? ⟨g, o + k * 8 + j, none⟩ = some u := fun j u hu => by rw [Nat.add_assoc]; exact hcell j u hu
      have z0 := hc' 0 _ rfl
      have z1 := hc' 1 _ rfl
      have z2 := hc' 2 _ rfl
      have z3 := hc' 3 _ rfl
      have z4 := hc' 4 _ rfl
      have z5 := hc' 5 _ rfl
      have z6 := hc' 6 _ rfl
      have z7 := hc' 7 _ rfl
      simp only [Nat.add_zero] at z0
      have hbk := bl1 wr (.cells cmd.cs.toArray 35)
      have BR := (Blk.new wr 35 cmd.cs.toArray).cell
      have HTA := Lib.hid (hTA.below hbk)
      have HC := Lib.hid (hC.grow hbk)
      clear hO hR hTA hC hcm hb hoR HST hcell hc' hbk
      have HIs := Lib.hid hk
      clear hk
      go_wp2_with fail
      refine (HS.out _ _ HTA.out HC.out).mono ?_
      rintro e w2 ⟨v2, rfl, ⟨g2, A2, c2, rfl, hg2, B2, hO2⟩, hT2, hC2⟩
      have hCw := HC.out.trans hC2
      have hTw := H0.out.1.tz
      have hOa := (HL.out.1.below (bl1 wr (.cells cmd.cs.toArray 35))).chR' hC2 (by decide) hTw
      have b2 := B2.cell
      have HH := Lib.hid (And.intro hg2 (And.intro hO2 (And.intro hT2 (And.intro hC2 (And.intro hCw (And.intro hTw hOa))))))
      clear hg2 hO2 hT2 hC2 hCw hTw hOa B2 BR z0 z1 z2 z3 z4 z5 z6 z7
      have HR5 := Lib.hid (Blk.rd (cs := [.slice A2 b.length c2]) (Blk.new w2 22 #[.slice A2 b.length c2]))
      have HO5 := Lib.hid (HH.out.2.2.2.2.2.2.alloc (.cells #[.slice A2 b.length c2] 22))
      have hm1 : k + 1 ≤ maxLen := by have := H0.out.2.2.2.1; unfold maxLen; omega
      have hm2 : (k + 1) * 24 ≤ 140737488355328 := by have := H0.out.2.2.2.1; omega
      have hm3 : w.heap.size ≤ (w2.alloc (.cells #[.slice A2 b.length c2] 22)).heap.size := by have := HH.out.2.2.2.2.1.size; simp; omega
      have HM := Lib.hid (And.intro hm1 (And.intro hm2 hm3))
      clear hm1 hm2 hm3
      go_wp2_with (at_builtin; refine wpList_app _ rfl (.tmp 42) (.tmp 47) 29 rfl w.heap.size 22 (.slice none 0 0) 1 24 Try.underlying29 info22 rfl (by decide) A' k c' vs rfl HO5.out _ _ 1 1 [.slice A2 b.length c2] rfl rfl HR5.out (by simp [Value.oneCell']) HM.out.1 HM.out.2.1 HM.out.2.2 ?_; intro A5 c5 w5 ho5 hg5 hbk5)
      obtain ⟨hg2, hO2, hT2, hC2, hCw, hTw, hOa⟩ := HH.out
      have hb5 : Below w2.heap.size w2 (w2.alloc (.cells #[.slice A2 b.length c2] 22)) := bl1 _ _
      have hC5 : ChS L T w w5 := by
        refine Chg.trans (hCw.grow hb5) (Chg.of_grown hg5) (fun i hi h => ?_)
        have := (HO5.out.lt h.symm).1
        omega
      have hRr := (HL.out.2.1.chR (ChR.of_below (bl1 wr (.cells cmd.cs.toArray 35)) L [146, 109, 221] L T) (by decide) hTw).chR hC2 (by decide) hTw
      have hRA := (hRr.chR (ChR.of_below hb5 L [146, 109, 221] L T) (by decide) hTw).snoc ((hO2.more (base' := w.heap.size) (by have := HL.out.2.2.2.1.size; simp; omega)).below hb5)
      have hTA5 := hT2.below hb5
      have hfin : RowsB w5 w.heap.size (vs ++ [.slice A2 b.length c2]) (bl.take k ++ [b]) ∧ TA w5 L T w2.heap.size s m l (xs (k + 1)) := by
        rcases hA : blkOf A' with _ | q
        · rw [hA] at hg5
          have hbn : Below (w2.alloc (.cells #[.slice A2 b.length c2] 22)).heap.size (w2.alloc (.cells #[.slice A2 b.length c2] 22)) w5 := ⟨hg5.os, hg5.tape, hg5.output, hg5.size, fun j hj => hg5.block j hj (by simp)⟩
          exact ⟨hRA.chR (ChR.of_below hbn L [146, 109, 221] L T) (by decide) hTw, hTA5.below hbn⟩
        · rw [hA] at hg5
          obtain ⟨cs, hcs⟩ := HO5.out.row hA
          exact ⟨hRA.row hg5 hcs (by decide), hTA5.row hg5 hcs (by decide) (by decide) (by decide) (by decide) (Nat.le_trans hTw (HO5.out.lt hA).1)⟩
      have htk : bl.take (k + 1) = bl.take k ++ [b] := by rw [List.take_add_one, HL.out.2.2.2.2.2]; rfl
      have hk1 := H0.out.2.2.2.1
      have hkN : k < 1000 := by omega
      have hkI : (k : Int) < 1000 := by omega
      have hkp : (0 : Int) ≤ k := by omega
      have hw6 : wrap64 ((k : Int) + 1) = (k : Int) + 1 := by unfold wrap64; omega
      go_roundw
      case rel => exact ⟨k + 1, A5, c5, _, w2.heap.size, hlt0, congrArg (Value.int .i64) (by first | (rw [hw6]; omega) | omega), rfl, ho5, by rw [htk]; exact hfin.1, hfin.2, hC5⟩
      case measure =>
        rw [hw6]
        simp only [intOf]
        exact meas_lt hlt
    · obtain rfl : k = bl.length := by omega
      have hlt : bl.length < cl.length := H0.out.2.2.1
      have hltI : (bl.length : Int) < cl.length := by omega
      obtain ⟨cmd, hcm⟩ : ∃ x, cl[bl.length]? = some x := ⟨_, List.getElem?_eq_getElem hlt⟩
      have HS := Lib.hid (HFT.out cmd hcm)
      have hoR := H0.out.2.1.chR' hC (by decide) H0.out.2.2.2.2
      obtain ⟨g, o, rfl⟩ := hoR.at_ (by omega)
      have hcell : ∀ j u, cmd.cs[j]? = some u → wr.cell? ⟨g, o + (bl.length * 8 + j), none⟩ = some u := fun j u hu => hoR.cells _ _ (by
        have := flatC_at Cm.cs 8 cl (fun t _ => rfl) bl.length cmd hcm j u hu
        exact this)
      have HL := Lib.hid (And.intro hO (And.intro hR (And.intro hTA (And.intro hC hcm))))
      have hc' : ∀ j u, cmd.cs[j]? = some u → wr.cell? ⟨g, o + bl.length * 8 + j, none⟩ = some u := fun j u hu => by rw [Nat.add_assoc]; exact hcell j u hu
      have z0 := hc' 0 _ rfl
      have z1 := hc' 1 _ rfl
      have z2 := hc' 2 _ rfl
      have z3 := hc' 3 _ rfl
      have z4 := hc' 4 _ rfl
      have z5 := hc' 5 _ rfl
      have z6 := hc' 6 _ rfl
      have z7 := hc' 7 _ rfl
      simp only [Nat.add_zero] at z0
      have hbk := bl1 wr (.cells cmd.cs.toArray 35)
      have BR := (Blk.new wr 35 cmd.cs.toArray).cell
      have HTA := Lib.hid (hTA.below hbk)
      have HC := Lib.hid (hC.grow hbk)
      clear hO hR hTA hC hcm hoR HST HFT hcell hc' hbk
      clear hk hlt0
      have hfI : (f == 0) = false := by simp [hf]
      go_wp2_with fail
      refine (HS.out _ _ HTA.out HC.out).mono ?_
      rintro e w2 ⟨g2, rfl, hg2, B2, hT2, hC2⟩
      have hCw := HC.out.trans hC2
      have b2 := B2.cell
      have HH := Lib.hid (And.intro hT2 hCw)
      clear hT2 hC2 hCw B2 BR z0 z1 z2 z3 z4 z5 z6 z7 hg2
      go_wp2_with (go_region)
      go_ret2
      exact ⟨rfl, HH.out.1.below ((Below.refl _ _).drew), HH.out.2.grow ((Below.refl _ _).drew)⟩
end Go.Proofs.Yteecgdbicokgoaa
