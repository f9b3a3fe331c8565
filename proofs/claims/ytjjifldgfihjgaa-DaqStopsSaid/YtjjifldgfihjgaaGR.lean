/- DaqStops: the walk. -/
import Derived.Test.YtjjifldgfihjgaaGQ
namespace Go.Proofs.Ytjjifldgfihjgaa
open Go.RowKit
set_option linter.unusedVariables false
set_option linter.unusedSimpArgs false
set_option maxRecDepth 100000 in
set_option maxHeartbeats 8000000 in
theorem stops_law (A : Option Addr) (n c : Nat) (l : List Cb) (all : Bool) (w : World) (hx : l.length = n) (hl : n ≤ maxLen) (hr : RCs w A l) : Calls Try.prog 7 #[.slice A n c, .bool all] w fun e w' => e = .returned (.bool true) ∧ Below w.heap.size w w' := by
  have SH := Lib.hid (shown_any w)
  have HR := Lib.hid hr
  have FW := Lib.hid (fun w' (hb : Below w.heap.size w w') => few_any A n c l w' hx hl (hr.bel hb))
  clear hx hl hr
  go_enter Try.func7, Try.ntmps7
  go_wp2_with fail
  refine SH.out.mono ?_
  rintro e w1 ⟨rfl, hb1⟩
  have N1 := Lib.hid (newd_any (fun _ => (0, 9)) w.heap.size 4 w1 hb1.size (nu0 w1) (by decide) (by decide))
  clear SH
  go_wp2_with fail
  refine N1.out.mono ?_
  rintro e w2 ⟨q, Φ2, rfl, hq, hX2, hx2⟩
  have hb2 := hb1.trans (hx2.below hb1.size)
  have HX2 := Lib.hid hX2
  have HN2 := Lib.hid hx2.nu
  have F := Lib.hid (FW.out w2 hb2)
  clear N1 hX2 hx2 FW hb1
  go_wp2_with fail
  refine F.out.mono ?_
  rintro e w3 ⟨A3, c3, rfl, ho3, hb3⟩
  have hcm := few_in (HR.out.bel hb2)
  have hf80 := few_len l
  obtain ⟨fl, hfl⟩ : ∃ fl, fewX l = fl := ⟨_, rfl⟩
  rw [hfl] at ho3 hcm hf80 ⊢
  have HC3 : Hid (CW w Φ2 A3 c3 fl w3) := Lib.hid ⟨OwC.fresh (ho3.more hb2.size) HN2.out (fun g hg => (ho3.lt hg).1), fun x hx => ((fun (k : CbIn w w.heap.size x) => k.below (hb2.trans (hb3.mono hb2.size))) (by
    have hcm' := few_in HR.out
    rw [hfl] at hcm'
    exact hcm' x hx)), HN2.out.below hb3, hb2.trans (hb3.mono hb2.size)⟩
  have HX3 : Hid (DX Φ2 w.heap.size w3 q ⟨4, 0, [], none⟩) := Lib.hid (HX2.out.below hb3)
  obtain ⟨m, hm⟩ : ∃ m, fl.length = m := ⟨_, rfl⟩
  rw [hm] at hf80 ⊢
  have HM := Lib.hid hm
  clear F HX2 HN2 HR ho3 hb3 hcm hfl hm hb2
  go_wp2_with fail
  go_loopw [31] (fun iv wr => ∃ (k : Nat) (Φ : Who) (a : Dq), k ≤ m ∧ iv = .int .i64 k ∧ DX Φ w.heap.size wr q a ∧ CW w Φ A3 c3 fl wr) (fun iv _ => m - (intOf iv).toNat)
  case atStart => exact ⟨0, Φ2, _, Nat.zero_le _, rfl, HX3.out, HC3.out⟩
  case round =>
    obtain ⟨k, Φ, a, hk, rfl, hX, hC⟩ := hrel
    by_cases hlt : k < m
    · have hlt' : (k : Int) < m := by omega
      obtain ⟨x, hxk⟩ : ∃ x, fl[k]? = some x := ⟨_, List.getElem?_eq_getElem (by rw [HM.out]; exact hlt)⟩
      obtain ⟨g0, o0, rfl, hr⟩ := hC.cell hxk
      have q0 := hr 0 _ rfl
      have q1 := hr 1 _ rfl
      have q2 := hr 2 _ rfl
      have q3 := hr 3 _ rfl
      have q4 := hr 4 _ rfl
      have q5 := hr 5 _ rfl
      have q6 := hr 6 _ rfl
      have q7 := hr 7 _ rfl
      rw [Nat.add_zero] at q0
      have hxm := List.mem_of_getElem? hxk
      have D := Lib.hid (do_cw (hX.below (bl1 wr (.cells x.1.cs.toArray 33))) (hC.below (bl1 wr (.cells x.1.cs.toArray 33))) hxm)
      have hE1 := evs_run a x.1
      obtain ⟨⟨a1, rb, re⟩, hres⟩ : ∃ r, doX a x.1 = r := ⟨_, rfl⟩
      rw [hres] at D hE1
      dsimp only at hE1
      have HE1 := Lib.hid hE1
      clear hr hX hC hE1 hres hxk hxm
      go_wp2_with fail
      refine D.out.mono ?_
      rintro e w4 ⟨V, d, Φ4, rfl, -, hX4, hC4, he4⟩
      have FF : Hid (∃ (k' : Nat) (Φ : Who) (a : Dq), k' ≤ m ∧ Value.int .i64 ((k : Int) + 1) = .int .i64 k' ∧ DX Φ w.heap.size w4 q a ∧ CW w Φ (some ⟨g0, o0, none⟩) c3 fl w4) := Lib.hid ⟨k + 1, Φ4, a1, by omega, by simp, hX4, hC4⟩
      clear D hX4 hC4 he4 q0 q1 q2 q3 q4 q5 q6 q7
      go_wp2_with fail
      go_roundw
      case rel => exact FF.out
      case measure => simp [intOf]; omega
    · obtain rfl : k = m := by omega
      have LS := Lib.hid (lists_any hX)
      have HX := Lib.hid hX
      have HN := Lib.hid hC.nu
      have HB := Lib.hid hC.bel
      clear hX hC HX3 HC3
      go_wp2_with fail
      refine LS.out.mono ?_
      rintro e w5 ⟨A5, c5, cl, rfl, hab, hO, hb5⟩
      have hlen : cl.length = a.ls.length := by rw [← abs_len, hab, listsX_len]
      have hl4 : cl.length ≤ 4 := by rw [hlen]; exact HX.out.1.n4
      obtain ⟨nl, hnl⟩ : ∃ nl, cl.length = nl := ⟨_, rfl⟩
      have HNL := Lib.hid hnl
      rw [hnl] at hl4 ⊢
      have HAB := Lib.hid hab
      have H0 : Hid (OL w5 wr.heap.size A5 c5 cl ∧ DX Φ w.heap.size w5 q a ∧ Nu Φ w5 ∧ Below w.heap.size w w5) := Lib.hid ⟨hO, HX.out.below hb5, HN.out.below hb5, HB.out.trans (hb5.mono HB.out.size)⟩
      have HBZ := Lib.hid HB.out.size
      obtain ⟨base, hbase⟩ : ∃ base, wr.heap.size = base := ⟨_, rfl⟩
      have HNB : Hid (∀ g, base ≤ g → Φ g = (0, 9)) := Lib.hid (by rw [← hbase]; exact HN.out)
      rw [hbase] at H0 HBZ
      have hcc := hO.row.2.1
      rw [hnl] at hcc
      have hccm := hO.row.2.2.1
      unfold maxLen at hccm
      clear LS hab hO hb5 hlen hnl HX HN HB hbase
      go_wp2_with fail
      go_loopw [43, 11] (fun iv jv wr => ∃ i : Nat, i ≤ nl ∧ iv = .int .i64 i ∧ OL wr base A5 c5 (mapK Lc.stop i cl) ∧ DX Φ w.heap.size wr q a ∧ Nu Φ wr ∧ Below w.heap.size w wr) (fun iv _ _ => nl - (intOf iv).toNat)
      case atStart => exact ⟨0, Nat.zero_le _, rfl, by rw [mapK_zero]; exact H0.out.1, H0.out.2⟩
      case round =>
        obtain ⟨i, hi, rfl, hO, hX, hN, hB⟩ := hrel
        by_cases hil : i < nl
        · have hil' : (i : Int) < nl := by omega
          obtain ⟨x, hx⟩ : ∃ x, cl[i]? = some x := ⟨_, List.getElem?_eq_getElem (by rw [HNL.out]; exact hil)⟩
          have hxm : (mapK Lc.stop i cl)[i]? = some x := by rw [mapK_get]; exact hx
          have hml : (mapK Lc.stop i cl).length = nl := by rw [mapK_len, HNL.out]
          obtain ⟨g, o, rfl⟩ := hO.row.at_ (by rw [hml]; omega)
          have hgl := hO.row.lt (g := g) rfl
          have hg9 : Φ g = (0, 9) := HNB.out g hgl.1
          have hgB : w.heap.size ≤ g := Nat.le_trans HBZ.out hgl.1
          have hset := mapK_set Lc.stop i cl x hx
          have HO := Lib.hid hO
          have HX := Lib.hid hX
          have HN := Lib.hid hN
          have HB := Lib.hid hB
          have HXM := Lib.hid hxm
          have HSET := Lib.hid hset
          have hrow := hO.row
          rw [hml] at hrow
          clear hX hN hB hx hxm hset hO hgl
          go_wp2_with (first
            | (refine wpList_stO rfl 4 (.tmp 51) (.const (.bool false)) rfl (.bool false) (i * 8 + 6) (by first | rfl | (rw [← Nat.add_assoc]; rfl)) rfl hrow (by simp [Value.cells]; omega) (by kernel_rfl) (by simp [Value.cells, Value.oneCell']) ?_; intro w6 ho6 hg6)
            | (refine wpList_stO rfl 4 (.tmp 53) (.const (.bool false)) rfl (.bool false) (i * 8 + 7) (by first | rfl | (rw [← Nat.add_assoc]; rfl)) rfl ho6 (by simp [Value.cells]; omega) (by kernel_rfl) (by simp [Value.cells, Value.oneCell']) ?_; intro w7 ho7 hg7))
          have FF : Hid (∃ i' : Nat, i' ≤ nl ∧ Value.int .i64 ((i : Int) + 1) = .int .i64 i' ∧ OL w7 base (some ⟨g, o, none⟩) c5 (mapK Lc.stop i' cl) ∧ DX Φ w.heap.size w7 q a ∧ Nu Φ w7 ∧ Below w.heap.size w w7) := Lib.hid (by
            have O7 := HO.out.setL2 (x1 := { x with on := false }) (x2 := x.stop) HXM.out (j1 := 6) (j2 := 7) (v1 := .bool false) (v2 := .bool false) (by decide) (by decide) rfl ⟨rfl, rfl, rfl⟩ rfl ⟨rfl, rfl, rfl⟩ (by rw [hml]; exact ho6) hg6 (by rw [hml]; exact ho7) hg7
            rw [HSET.out] at O7
            obtain ⟨X6, N6⟩ := HX.out.one9 HN.out hg6 hgB hg9
            obtain ⟨X7, N7⟩ := X6.one9 N6 hg7 hgB hg9
            exact ⟨i + 1, by omega, by simp, O7, X7, N7, bel_grown (bel_grown HB.out hg6 hgB) hg7 hgB⟩)
          clear hrow ho6 hg6 ho7 hg7 HO HX HN HB HSET
          go_roundw
          case rel => exact FF.out
          case measure => simp [intOf]; omega
        · obtain rfl : i = nl := by omega
          have hall : mapK Lc.stop i cl = cl.map Lc.stop := by rw [← HNL.out]; exact mapK_all Lc.stop cl
          rw [hall] at hO
          have HO := Lib.hid hO
          have hC : CW w Φ none 0 [] wr := CW.nil hN hB
          have ST := Lib.hid (stop_cw hX hC)
          have hdo := do_in (x := (cm 26 0 0 0 0 0 0, [])) hX hC (cm_in _ _ (by decide))
          change Calls Try.prog 12 _ _ (DoP _ _ _ _ _ _ _ (doX a (cm 26 0 0 0 0 0 0))) at hdo
          rw [do_all0 a] at hdo
          have D := Lib.hid hdo
          clear hX hC hO hall hdo hN hB H0
          have FIN : Hid (∀ w6 Φ6, DX Φ6 w.heap.size w6 q (stopX a) → CW w Φ6 none 0 [] w6 → Ext w.heap.size (Sd q) Φ Φ6 wr w6 → True) := Lib.hid fun _ _ _ _ _ => trivial
          cases all
          case' false =>
            go_wp2_with fail
            refine ST.out.mono ?_
            rintro e w6 ⟨rfl, Φ6, hX6, hC6, he6⟩
          case' true =>
            go_wp2_with fail
            refine D.out.mono ?_
            rintro e w6 ⟨V, d, Φ6, rfl, -, hX6, hC6, he6⟩
          all_goals
            have HO6 := Lib.hid ((OLC.new HO.out HNB.out).ext he6)
            have LS := Lib.hid (lists_any hX6)
            have HX6 := Lib.hid hX6
            have HC6 := Lib.hid hC6
            clear ST D FIN HO hX6 hC6 he6
            go_wp2_with fail
            refine LS.out.mono ?_
            rintro e w7 ⟨A7, c7, cm7, rfl, hab7, hO7, hb7⟩
            have hlm : cm7.length = i := by rw [← abs_len, hab7, listsX_len]; show (a.ls.map Ls.stop).length = i; rw [List.length_map, ← HNL.out, ← abs_len, HAB.out, listsX_len]
            have hX7 := HX6.out.below hb7
            have hC7 := HC6.out.below hb7
            have HO67 := Lib.hid (HO6.out.below hb7)
            have hdo := do_in (x := (cm 18 0 0 0 0 0 0, [])) hX7 hC7 (cm_in _ _ (by decide))
            change Calls Try.prog 12 _ _ (DoP _ _ _ _ _ _ _ (doX (stopX a) (cm 18 0 0 0 0 0 0))) at hdo
            rw [do_free (runs_stop a)] at hdo
            have D2 := Lib.hid hdo
            have HO7 := Lib.hid hO7
            have HAB7 := Lib.hid hab7
            have LL7 : Hid (LL (abs cm7)) := Lib.hid (by rw [hab7]; exact ll_lists HX6.out.1)
            have HN6 := Lib.hid HC6.out.nu
            rw [hlm]
            have HLM := Lib.hid hlm
            clear LS HX6 HO6 hX7 hC7 hdo hO7 hab7 hlm
            go_wp2_with fail
            refine D2.out.mono ?_
            rintro e w8 ⟨V8, d8, Φ8, rfl, -, hX8, hC8, he8⟩
            have R7 := ((OLC.new HO7.out HN6.out).ext he8).o.rl
            have R5 := (HO67.out.ext he8).o.rl
            have hab : abs cm7 = abs (cl.map Lc.stop) := by
              rw [HAB7.out, stop_abs, HAB.out]
              exact lists_stop a.ls
            have SM := Lib.hid (same_any (c := c7) (c' := c5) R7 R5 hab HLM.out LL7.out)
            have RN := Lib.hid (fun w' (hb : Below w8.heap.size w8 w') => runs_any (hX8.below hb))
            have LN := Lib.hid (fun w' (hb : Below w8.heap.size w8 w') => lists_any (hX8.below hb))
            have hb8 := hC8.bel
            clear D2 R7 R5 hab hX8 hC8 he8
            go_wp2_with fail
            refine SM.out.mono ?_
            rintro e w9 ⟨rfl, hb9⟩
            have RN := RN.out w9 hb9
            rw [show runsX (freeX (stopX a)).ls = false from rfl] at RN
            have RN := Lib.hid RN
            clear SM
            go_wp2_with fail
            refine RN.out.mono ?_
            rintro e w10 ⟨rfl, hb10⟩
            have hb810 := hb9.trans (hb10.mono hb9.size)
            have LN := Lib.hid (LN.out w10 hb810)
            clear RN
            go_wp2_with fail
            refine LN.out.mono ?_
            rintro e w11 ⟨A11, c11, cl11, rfl, hab11, -, hb11⟩
            have hl11 : cl11.length = 0 := by rw [← abs_len, hab11]; rfl
            rw [hl11]
            have hbb := hb8.trans ((hb810.trans (hb11.mono hb810.size)).mono hb8.size)
            clear LN hab11 hl11
            go_wp2_with fail
            go_ret
            exact ⟨rfl, hbb⟩
end Go.Proofs.Ytjjifldgfihjgaa
