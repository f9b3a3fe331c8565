/- DaqOwn: the walk. -/
import Derived.Test.YtjjifldgfihjgaaGT
namespace Go.Proofs.Ytjjifldgfihjgaa
open Go.RowKit
set_option linter.unusedVariables false
set_option linter.unusedSimpArgs false
set_option maxRecDepth 100000 in
set_option maxHeartbeats 8000000 in
theorem own_law (A : Option Addr) (n c : Nat) (l : List Cb) (w : World) (hx : l.length = n) (hl : n ≤ maxLen) (hr : RCs w A l) : Calls Try.prog 6 #[.slice A n c] w fun e w' => e = .returned (.bool true) ∧ Below w.heap.size w w' := by
  have SH := Lib.hid (shown_any w)
  have HR := Lib.hid hr
  have FW := Lib.hid (fun w' (hb : Below w.heap.size w w') => few_any A n c l w' hx hl (hr.bel hb))
  clear hx hl hr
  go_enter Try.func6, Try.ntmps6
  go_wp2_with fail
  refine SH.out.mono ?_
  rintro e w1 ⟨rfl, hb1⟩
  have N1 := Lib.hid (newd_any (fun _ => (0, 9)) w.heap.size 1 w1 hb1.size (nu0 w1) (by decide) (by decide))
  clear SH
  go_wp2_with fail
  refine N1.out.mono ?_
  rintro e w2 ⟨q, Φ2, rfl, hq, hX2, hx2⟩
  have hb2 := hb1.trans (hx2.below hb1.size)
  have HX2 := Lib.hid hX2
  have HN2 := Lib.hid hx2.nu
  have F := Lib.hid (FW.out w2 hb2)
  clear N1 hX2 hx2 FW hb1
  go_wp2_with fail
  refine F.out.mono ?_
  rintro e w3 ⟨A3, c3, rfl, ho3, hb3⟩
  have hcm := few_in (HR.out.bel hb2)
  have hf80 := few_len l
  obtain ⟨fl, hfl⟩ : ∃ fl, fewX l = fl := ⟨_, rfl⟩
  rw [hfl] at ho3 hcm hf80 ⊢
  have HC3 : Hid (CW w Φ2 A3 c3 fl w3) := Lib.hid ⟨OwC.fresh (ho3.more hb2.size) HN2.out (fun g hg => (ho3.lt hg).1), fun x hx => ((fun (k : CbIn w w.heap.size x) => k.below (hb2.trans (hb3.mono hb2.size))) (by
    have hcm' := few_in HR.out
    rw [hfl] at hcm'
    exact hcm' x hx)), HN2.out.below hb3, hb2.trans (hb3.mono hb2.size)⟩
  have HX3 : Hid (DX Φ2 w.heap.size w3 q ⟨1, 0, [], none⟩) := Lib.hid (HX2.out.below hb3)
  obtain ⟨m, hm⟩ : ∃ m, fl.length = m := ⟨_, rfl⟩
  rw [hm] at hf80 ⊢
  have HM := Lib.hid hm
  clear F HX2 HN2 HR ho3 hb3 hcm hfl hm hb2
  go_wp2_with fail
  go_loopw [32] (fun iv wr => ∃ (k : Nat) (Φ : Who) (a : Dq), k ≤ m ∧ iv = .int .i64 k ∧ DX Φ w.heap.size wr q a ∧ CW w Φ A3 c3 fl wr) (fun iv _ => m - (intOf iv).toNat)
  case atStart => exact ⟨0, Φ2, _, Nat.zero_le _, rfl, HX3.out, HC3.out⟩
  case round =>
    obtain ⟨k, Φ, a, hk, rfl, hX, hC⟩ := hrel
    by_cases hlt : k < m
    · have hlt' : (k : Int) < m := by omega
      obtain ⟨x, hxk⟩ : ∃ x, fl[k]? = some x := ⟨_, List.getElem?_eq_getElem (by rw [HM.out]; exact hlt)⟩
      obtain ⟨g0, o0, rfl, hr⟩ := hC.cell hxk
      have q0 := hr 0 _ rfl
      have q1 := hr 1 _ rfl
      have q2 := hr 2 _ rfl
      have q3 := hr 3 _ rfl
      have q4 := hr 4 _ rfl
      have q5 := hr 5 _ rfl
      have q6 := hr 6 _ rfl
      have q7 := hr 7 _ rfl
      rw [Nat.add_zero] at q0
      have hxm := List.mem_of_getElem? hxk
      have D := Lib.hid (do_cw (hX.below (bl1 wr (.cells x.1.cs.toArray 33))) (hC.below (bl1 wr (.cells x.1.cs.toArray 33))) hxm)
      have hE1 := evs_run a x.1
      obtain ⟨⟨a1, rb, re⟩, hres⟩ : ∃ r, doX a x.1 = r := ⟨_, rfl⟩
      rw [hres] at D hE1
      dsimp only at hE1
      have HE1 := Lib.hid hE1
      clear hr hX hC hE1 hres hxk hxm
      go_wp2_with fail
      refine D.out.mono ?_
      rintro e w4 ⟨V, d, Φ4, rfl, -, hX4, hC4, he4⟩
      have FF : Hid (∃ (k' : Nat) (Φ : Who) (a : Dq), k' ≤ m ∧ Value.int .i64 ((k : Int) + 1) = .int .i64 k' ∧ DX Φ w.heap.size w4 q a ∧ CW w Φ (some ⟨g0, o0, none⟩) c3 fl w4) := Lib.hid ⟨k + 1, Φ4, a1, by omega, by simp, hX4, hC4⟩
      clear D hX4 hC4 he4 q0 q1 q2 q3 q4 q5 q6 q7
      go_wp2_with fail
      go_roundw
      case rel => exact FF.out
      case measure => simp [intOf]; omega
    · obtain rfl : k = m := by omega
      have LS := Lib.hid (lists_any hX)
      have LS2 := Lib.hid (fun w' (hb : Below wr.heap.size wr w') => lists_any (hX.below hb))
      have HX := Lib.hid hX
      have HN := Lib.hid hC.nu
      have HB := Lib.hid hC.bel
      clear hX hC HX3 HC3
      go_wp2_with fail
      refine LS.out.mono ?_
      rintro e w5 ⟨A5, c5, cl, rfl, hab, hO, hb5⟩
      have hlen : cl.length = a.ls.length := by rw [← abs_len, hab, listsX_len]
      have hl4 : cl.length ≤ 4 := by rw [hlen]; exact HX.out.1.n4
      obtain ⟨nl, hnl⟩ : ∃ nl, cl.length = nl := ⟨_, rfl⟩
      have HNL := Lib.hid hnl
      have HAB := Lib.hid hab
      have HO5 := Lib.hid hO
      have HB5 := Lib.hid hb5
      have LS2 := Lib.hid (LS2.out w5 hb5)
      rw [hnl] at hl4 ⊢
      clear LS hab hO hb5 hlen hnl
      go_wp2_with fail
      refine LS2.out.mono ?_
      rintro e w6 ⟨A6, c6, cy, rfl, hab6, hO6, hb6⟩
      have hlm : cy.length = nl := by rw [← abs_len, hab6, ← HAB.out, abs_len, HNL.out]
      have HLM := Lib.hid hlm
      have HAB6 := Lib.hid hab6
      rw [hlm]
      have HO56 := HO5.out.below hb6
      have hb56 := HB5.out.trans (hb6.mono HB5.out.size)
      have HBZ := Lib.hid HB.out.size
      have hbase6 := HB5.out.size
      have H0 : Hid (WX w wr.heap.size w5.heap.size Φ q a A5 c5 nl A6 c6 cy cl w6) := Lib.hid ⟨HO56, HNL.out, fun g hg => (InL.lt HO5.out hg).2, hO6, HX.out.below hb56, HN.out.below hb56, HB.out.trans (hb56.mono HB.out.size), fun g h1 _ => HN.out g h1, HB.out.size⟩
      obtain ⟨base, hbase⟩ : ∃ base, wr.heap.size = base := ⟨_, rfl⟩
      obtain ⟨top, htop⟩ : ∃ top, w5.heap.size = top := ⟨_, rfl⟩
      rw [hbase, htop] at H0
      have hcc := HO5.out.row.2.1
      rw [HNL.out] at hcc
      have hccm := HO5.out.row.2.2.1
      unfold maxLen at hccm
      have HNN := Lib.hid (show Nu Φ wr ∧ wr.heap.size = base from ⟨HN.out, hbase⟩)
      clear LS2 hab6 hO6 hb6 hlm HO56 hb56 HBZ hbase6 HO5 HB5 HX HN HB hbase htop HNL
      go_wp2_with fail
      go_loopw [46, 10, 12, 13] (fun iv _ _ _ wr => ∃ (i : Nat) (cl : List Lc), i ≤ nl ∧ iv = .int .i64 i ∧ WX w base top Φ q a A5 c5 nl A6 c6 cy cl wr) (fun iv _ _ _ _ => nl - (intOf iv).toNat)
      case atStart => exact ⟨0, cl, Nat.zero_le _, rfl, H0.out⟩
      case round =>
        clear H0
        obtain ⟨i, cx, hi, rfl, hW⟩ := hrel
        by_cases hil : i < nl
        · have hil' : (i : Int) < nl := by omega
          obtain ⟨x, hx⟩ : ∃ x, cx[i]? = some x := ⟨_, List.getElem?_eq_getElem (by rw [hW.n]; exact hil)⟩
          obtain ⟨g, o, rfl⟩ := hW.o.row.at_ (by rw [hW.n]; omega)
          have r6 := hW.o.row.cells _ _ (lcells_at hx (j := 6) rfl)
          rw [← Nat.add_assoc] at r6
          have hrow := hW.o.row
          rw [hW.n] at hrow
          have HW := Lib.hid hW
          have HXI := Lib.hid hx
          obtain ⟨on, hon⟩ : ∃ on, x.on = on := ⟨_, rfl⟩
          rw [hon] at r6
          clear hW hx hon
          go_upto_region 15 with (refine wpList_stO rfl 4 (.tmp 58) (.tmp 56) rfl (.bool (!on)) (i * 8 + 6) (by first | rfl | (rw [← Nat.add_assoc]; rfl)) rfl hrow (by simp [Value.cells]; omega) (by kernel_rfl) (by simp [Value.cells, Value.oneCell']) ?_; intro w7 ho7 hg7)
          have W7 := HW.out.setL rfl (x' := { x with on := !on }) HXI.out (m := 6) (cs := [.bool (!on)]) (by simp) rfl ⟨rfl, rfl, rfl⟩ ho7 hg7
          have hx7 : (cx.set i { x with on := !on })[i]? = some { x with on := !on } := List.getElem?_set_self (List.getElem?_eq_some_iff.1 HXI.out).1
          have r1 := W7.o.row.cells _ _ (lcells_at hx7 (j := 1) rfl)
          rw [← Nat.add_assoc] at r1
          have H7 : Hid (∃ (cl : List Lc) (x' : Lc), WX w base top Φ q a (some ⟨g, o, none⟩) c5 nl A6 c6 cy cl w7 ∧ cl[i]? = some x' ∧ x'.A = x.A ∧ x'.tabs.length = x.tabs.length) := Lib.hid ⟨_, _, W7, hx7, rfl, rfl⟩
          obtain ⟨xA, hxA⟩ : ∃ xA, x.A = xA := ⟨_, rfl⟩
          obtain ⟨nt, hnt⟩ : ∃ nt, x.tabs.length = nt := ⟨_, rfl⟩
          obtain ⟨xc, hxc⟩ : ∃ xc, x.c = xc := ⟨_, rfl⟩
          replace r1 : w7.cell? ⟨g, o + i * 8 + 1, none⟩ = some (.slice xA nt xc) := by rw [r1, ← hxA, ← hnt, ← hxc]
          have htl : nt ≤ xc ∧ xc ≤ maxLen := by
            have hT := (HW.out.o.tab i x HXI.out).row
            rw [← hnt, ← hxc]
            exact ⟨hT.2.1, hT.2.2.1⟩
          obtain ⟨htl, htm⟩ := htl
          unfold maxLen at htm
          rw [hxA, hnt] at H7
          clear W7 hx7 ho7 hg7 hrow r6 HW HXI hxA hnt hxc
          go_wp2_with fail
          clear r1
          go_loopw [65, 12, 13] (fun jv _ _ wr => ∃ (j : Nat) (cl : List Lc) (x' : Lc), j ≤ nt ∧ jv = .int .i64 j ∧ WX w base top Φ q a (some ⟨g, o, none⟩) c5 nl A6 c6 cy cl wr ∧ cl[i]? = some x' ∧ x'.A = xA ∧ x'.tabs.length = nt) (fun jv _ _ _ => nt - (intOf jv).toNat)
          case atStart =>
            obtain ⟨cl7, x7, h1, h2, h3, h4⟩ := H7.out
            exact ⟨0, cl7, x7, Nat.zero_le _, rfl, h1, h2, h3, h4⟩
          case round =>
            clear H7
            obtain ⟨j, cx, x, hj, rfl, hW, hx, hxA, hnt⟩ := hrel
            by_cases hjl : j < nt
            · have hjl' : (j : Int) < nt := by omega
              obtain ⟨t, ht⟩ : ∃ t, x.tabs[j]? = some t := ⟨_, List.getElem?_eq_getElem (by rw [hnt]; exact hjl)⟩
              have hT := hW.o.tab i x hx
              have hTr := hT.row
              rw [hxA] at hTr
              obtain ⟨g2, o2, rfl⟩ := hTr.at_ (by rw [hnt]; omega)
              have s0 := hTr.cells _ _ (tcells_at ht)
              have hE := hT.ent j t ht
              have htl2 := hE.2.1
              have htm2 := hE.2.2.1
              unfold maxLen at htm2
              obtain ⟨tA, htA⟩ : ∃ tA, t.A = tA := ⟨_, rfl⟩
              obtain ⟨te, hte⟩ : ∃ te, t.es.length = te := ⟨_, rfl⟩
              obtain ⟨tc, htc⟩ : ∃ tc, t.c = tc := ⟨_, rfl⟩
              rw [htA, hte, htc] at s0
              rw [hte, htc] at htl2
              rw [htc] at htm2
              have H8 : Hid (∃ (cl : List Lc) (x' : Lc) (t' : Tb), WX w base top Φ q a (some ⟨g, o, none⟩) c5 nl A6 c6 cy cl wr ∧ cl[i]? = some x' ∧ x'.A = some ⟨g2, o2, none⟩ ∧ x'.tabs.length = nt ∧ x'.tabs[j]? = some t' ∧ t'.A = tA ∧ t'.es.length = te ∧ t'.c = tc) := Lib.hid ⟨_, _, _, hW, hx, hxA, hnt, ht, htA, hte, htc⟩
              clear hW hx hxA hnt ht hT hTr hE htA hte htc
              go_wp2_with fail
              go_loopw [71, 13] (fun zv _ wr => ∃ (z : Nat) (cl : List Lc) (x' : Lc) (t' : Tb), z ≤ te ∧ zv = .int .i64 z ∧ WX w base top Φ q a (some ⟨g, o, none⟩) c5 nl A6 c6 cy cl wr ∧ cl[i]? = some x' ∧ x'.A = some ⟨g2, o2, none⟩ ∧ x'.tabs.length = nt ∧ x'.tabs[j]? = some t' ∧ t'.A = tA ∧ t'.es.length = te ∧ t'.c = tc) (fun zv _ _ => te - (intOf zv).toNat)
              case atStart =>
                obtain ⟨cl7, x7, t7, h1⟩ := H8.out
                exact ⟨0, cl7, x7, t7, Nat.zero_le _, rfl, h1⟩
              case round =>
                clear H8 s0
                obtain ⟨z, cx, x, t, hz, rfl, hW, hx, hxA, hnt, ht, htA, hte, htc⟩ := hrel
                by_cases hzl : z < te
                · have hzl' : (z : Int) < te := by omega
                  obtain ⟨e, he⟩ : ∃ e, t.es[z]? = some e := ⟨_, List.getElem?_eq_getElem (by rw [hte]; exact hzl)⟩
                  have hE := (hW.o.tab i x hx).ent j t ht
                  have hE2 := hE
                  rw [htA, hte, htc] at hE2
                  obtain ⟨g3, o3, rfl⟩ := hE2.at_ (by omega)
                  have e0 := hE2.cells _ _ (ecells_at he (j := 0) rfl)
                  rw [Nat.add_zero] at e0
                  obtain ⟨es, hes⟩ : ∃ es, e.size = es := ⟨_, rfl⟩
                  have FF : Hid (∀ w8 v, Own w8 base 43 3 (some ⟨g3, o3, none⟩) te tc (putL (ecells t.es) (z * 3 + 0) [.int .u8 v]) → wr.grownBy w8 (some g3) → ∃ (z' : Nat) (cl : List Lc) (x' : Lc) (t' : Tb), z' ≤ te ∧ Value.int .i64 ((z : Int) + 1) = .int .i64 z' ∧ WX w base top Φ q a (some ⟨g, o, none⟩) c5 nl A6 c6 cy cl w8 ∧ cl[i]? = some x' ∧ x'.A = some ⟨g2, o2, none⟩ ∧ x'.tabs.length = nt ∧ x'.tabs[j]? = some t' ∧ t'.A = some ⟨g3, o3, none⟩ ∧ t'.es.length = te ∧ t'.c = tc) := Lib.hid fun w8 v ho8 hg8 => by
                    have hp := flatC_put En.cs 3 t.es (fun _ _ => rfl) z e { e with size := v } he 0 [.int .u8 v] (by simp) rfl
                    have W8 := hW.setE (t' := { t with es := t.es.set z { e with size := v } }) hx ht ⟨rfl, rfl, List.length_set⟩ htA (by rw [htA, hte, htc]; show Own _ _ _ _ _ _ _ (flatC En.cs _); rw [← hp]; exact ho8) hg8
                    exact ⟨z + 1, _, _, _, by omega, by simp, W8, List.getElem?_set_self (List.getElem?_eq_some_iff.1 hx).1, hxA, by show (x.tabs.set j _).length = nt; rw [List.length_set, hnt], List.getElem?_set_self (List.getElem?_eq_some_iff.1 ht).1, htA, by show (t.es.set z _).length = te; rw [List.length_set, hte], htc⟩
                  rw [hes] at e0
                  clear hW hx hxA hnt ht htA hte htc hE he hes
                  go_wp2_with (refine wpList_stO rfl 5 (.tmp 81) (.tmp 79) rfl (.int .u8 _) (z * 3 + 0) (by first | rfl | (rw [Nat.add_zero]; rfl)) rfl hE2 (by simp [Value.cells]; omega) (by kernel_rfl) (by simp [Value.cells, Value.oneCell']) ?_; intro w8 ho8 hg8)
                  have FG := Lib.hid (FF.out _ _ ho8 hg8)
                  clear FF ho8 hg8 hE2 e0
                  go_roundw
                  case rel => exact FG.out
                  case measure => simp [intOf]; omega
                · obtain rfl : z = te := by omega
                  have FG : Hid (∃ (j' : Nat) (cl : List Lc) (x' : Lc), j' ≤ nt ∧ Value.int .i64 ((j : Int) + 1) = .int .i64 j' ∧ WX w base top Φ q a (some ⟨g, o, none⟩) c5 nl A6 c6 cy cl wr ∧ cl[i]? = some x' ∧ x'.A = some ⟨g2, o2, none⟩ ∧ x'.tabs.length = nt) := Lib.hid ⟨j + 1, cx, x, by omega, by simp, hW, hx, hxA, hnt⟩
                  clear hW hx hxA hnt ht htA hte htc
                  go_wp2_with fail
                  go_roundw
                  case rel => exact FG.out
                  case measure => simp [intOf]; omega
            · obtain rfl : j = nt := by omega
              have FG : Hid (∃ (i' : Nat) (cl : List Lc), i' ≤ nl ∧ Value.int .i64 ((i : Int) + 1) = .int .i64 i' ∧ WX w base top Φ q a (some ⟨g, o, none⟩) c5 nl A6 c6 cy cl wr) := Lib.hid ⟨i + 1, cx, by omega, by simp, hW⟩
              clear hW hx hxA hnt
              go_wp2_with fail
              go_roundw
              case rel => exact FG.out
              case measure => simp [intOf]; omega
        · obtain rfl : i = nl := by omega
          have LS := Lib.hid (lists_any hW.x)
          have HW := Lib.hid hW
          clear hW
          go_wp2_with fail
          refine LS.out.mono ?_
          rintro e w7 ⟨A7, c7, cz, rfl, hab7, hO7, hb7⟩
          have hlz : cz.length = i := by rw [← abs_len, hab7, ← HAB6.out, abs_len, HLM.out]
          have hY7 := HW.out.y.below hb7
          have hbw7 := HW.out.bel.trans (hb7.mono HW.out.bel.size)
          have S0 := Lib.hid (fun w' (hb : Below w7.heap.size w7 w') => same_any (c := c6) (c' := c7) (hY7.below hb).rl (hO7.below hb).rl (HAB6.out.trans hab7.symm) HLM.out (by rw [HAB6.out]; exact ll_lists HW.out.x.1))
          rw [hlz]
          have SN := Lib.hid (stop_nil w7)
          clear LS HW hab7 hO7 hY7 hlz HAB6 HLM HAB HNN
          go_wp2_with fail
          refine SN.out.mono ?_
          rintro e w8 ⟨rfl, rfl⟩
          have DN := Lib.hid (do_nil w7 (cm 18 0 0 0 0 0 0))
          clear SN
          go_wp2_with fail
          refine DN.out.mono ?_
          rintro e w8 ⟨rfl, hb8⟩
          have S0 := Lib.hid (S0.out w8 hb8)
          clear DN
          go_wp2_with fail
          refine S0.out.mono ?_
          rintro e w9 ⟨rfl, hb9⟩
          have RN := Lib.hid (runs_nil w9)
          clear S0
          go_wp2_with fail
          refine RN.out.mono ?_
          rintro e w10 ⟨rfl, hb10⟩
          have LN := Lib.hid (lists_nil w10)
          clear RN
          go_wp2_with fail
          refine LN.out.mono ?_
          rintro e w11 ⟨rfl, rfl⟩
          have hbb := hbw7.trans ((hb8.trans ((hb9.trans (hb10.mono hb9.size)).mono hb8.size)).mono hbw7.size)
          clear LN
          go_wp2_with fail
          go_ret
          exact ⟨rfl, hbb⟩
end Go.Proofs.Ytjjifldgfihjgaa
