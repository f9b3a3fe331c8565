/- DaqFrees: the walk. -/
import Derived.Test.YtjjifldgfihjgaaGO
namespace Go.Proofs.Ytjjifldgfihjgaa
open Go.RowKit
set_option linter.unusedVariables false
set_option linter.unusedSimpArgs false
theorem ll_lists {a : Dq} (h : a.ok) : LL (listsX a.ls) := by
  have key : ∀ x ∈ listsX a.ls, ∃ y ∈ a.ls, x.tabs = y.tabs := fun x hx => by
    obtain ⟨i, hi⟩ := List.mem_iff_getElem?.1 hx
    unfold listsX at hi
    rw [lsts_get] at hi
    cases hz : a.ls[i]? with
    | none => rw [hz] at hi; cases hi
    | some z =>
      rw [hz] at hi
      simp only [Option.map_some, Option.some.injEq] at hi
      exact ⟨z, List.mem_of_getElem? hz, by rw [← hi]⟩
  have hll := h.ll
  exact ⟨by rw [listsX_len]; exact hll.n, fun x hx => by obtain ⟨y, hy, e⟩ := key x hx; rw [e]; exact hll.t y hy, fun x hx => by obtain ⟨y, hy, e⟩ := key x hx; rw [e]; exact hll.e y hy⟩
set_option maxRecDepth 100000 in
set_option maxHeartbeats 8000000 in
theorem frees_law (A : Option Addr) (n c : Nat) (l : List Cb) (B : Option Addr) (nB cB : Nat) (lB : List Cb) (w : World) (hx : l.length = n) (hl : n ≤ maxLen) (hr : RCs w A l) (hxB : lB.length = nB) (hlB : nB ≤ maxLen) (hrB : RCs w B lB) : Calls Try.prog 8 #[.slice A n c, .slice B nB cB] w fun e w' => e = .returned (.bool true) ∧ Below w.heap.size w w' := by
  have SH := Lib.hid (shown_any w)
  have HR := Lib.hid hr
  have HRB := Lib.hid hrB
  have FW := Lib.hid (fun w' (hb : Below w.heap.size w w') => few_any A n c l w' hx hl (hr.bel hb))
  have FWB := Lib.hid (fun w' (hb : Below w.heap.size w w') => few_any B nB cB lB w' hxB hlB (hrB.bel hb))
  clear hx hl hr hxB hlB hrB
  go_enter Try.func8, Try.ntmps8
  go_wp2_with fail
  refine SH.out.mono ?_
  rintro e w1 ⟨rfl, hb1⟩
  have N1 := Lib.hid (newd_any (fun _ => (0, 9)) w.heap.size 2 w1 hb1.size (nu0 w1) (by decide) (by decide))
  clear SH
  go_wp2_with fail
  refine N1.out.mono ?_
  rintro e wq ⟨q, Φq, rfl, hq, hXq, hxq⟩
  have hbq := hb1.trans (hxq.below hb1.size)
  have N2 := Lib.hid (newd_any Φq w.heap.size 2 wq hbq.size hxq.nu (by decide) (by decide))
  have HXq := Lib.hid hXq
  clear N1 hXq hxq
  go_wp2_with fail
  refine N2.out.mono ?_
  rintro e w2 ⟨r, Φ2, rfl, hrq, hY2, hx2⟩
  have hqr : r ≠ q := by have := HXq.out.lt.1; omega
  have hb2 := hbq.trans (hx2.below hbq.size)
  have HX2 := Lib.hid (HXq.out.ext hx2 (fun _ h => h))
  have HY2 := Lib.hid hY2
  have HN2 := Lib.hid hx2.nu
  have F := Lib.hid (FW.out w2 hb2)
  clear N2 HXq hY2 hx2 FW hb1 hbq
  go_wp2_with fail
  refine F.out.mono ?_
  rintro e w3 ⟨A3, c3, rfl, ho3, hb3⟩
  have HC3 := Lib.hid (few_cw HR.out HN2.out hb2 hb3 ho3)
  have HX3 := Lib.hid (HX2.out.below hb3)
  have HY3 := Lib.hid (HY2.out.below hb3)
  have hf80 := few_len l
  obtain ⟨fl, hfl⟩ : ∃ fl, fewX l = fl := ⟨_, rfl⟩
  rw [hfl] at HC3 hf80 ⊢
  obtain ⟨m, hm⟩ : ∃ m, fl.length = m := ⟨_, rfl⟩
  rw [hm] at hf80 ⊢
  have HM := Lib.hid hm
  clear F HX2 HY2 HN2 HR ho3 hb3 hfl hm hb2
  go_wp2_with fail
  go_loopw [46] (fun iv wr => ∃ (k : Nat) (Φ : Who) (a : Dq), k ≤ m ∧ iv = .int .i64 k ∧ DX Φ w.heap.size wr q a ∧ CW w Φ A3 c3 fl wr ∧ a.evs = 2 ∧ DX Φ w.heap.size wr r ⟨2, 0, [], none⟩) (fun iv _ => m - (intOf iv).toNat)
  case atStart => exact ⟨0, Φ2, _, Nat.zero_le _, rfl, HX3.out, HC3.out, rfl, HY3.out⟩
  case round =>
    obtain ⟨k, Φ, a, hk, rfl, hX, hC, he, hY⟩ := hrel
    by_cases hlt : k < m
    · have hlt' : (k : Int) < m := by omega
      obtain ⟨x, hxk⟩ : ∃ x, fl[k]? = some x := ⟨_, List.getElem?_eq_getElem (by rw [HM.out]; exact hlt)⟩
      obtain ⟨g0, o0, rfl, hr⟩ := hC.cell hxk
      have q0 := hr 0 _ rfl
      have q1 := hr 1 _ rfl
      have q2 := hr 2 _ rfl
      have q3 := hr 3 _ rfl
      have q4 := hr 4 _ rfl
      have q5 := hr 5 _ rfl
      have q6 := hr 6 _ rfl
      have q7 := hr 7 _ rfl
      rw [Nat.add_zero] at q0
      have hxm := List.mem_of_getElem? hxk
      have D := Lib.hid (do_cw (hX.below (bl1 wr (.cells x.1.cs.toArray 33))) (hC.below (bl1 wr (.cells x.1.cs.toArray 33))) hxm)
      have hE1 := evs_run a x.1
      obtain ⟨⟨a1, rb, re⟩, hres⟩ : ∃ r, doX a x.1 = r := ⟨_, rfl⟩
      rw [hres] at D hE1
      dsimp only at hE1
      rw [he] at hE1
      have HE1 := Lib.hid hE1
      have HY := Lib.hid (hY.below (bl1 wr (.cells x.1.cs.toArray 33)))
      clear hY
      clear hr hX hC hE1 hres hxk hxm
      go_wp2_with fail
      refine D.out.mono ?_
      rintro e w4 ⟨V, d, Φ4, rfl, -, hX4, hC4, he4⟩
      have FF : Hid (∃ (k' : Nat) (Φ : Who) (a : Dq), k' ≤ m ∧ Value.int .i64 ((k : Int) + 1) = .int .i64 k' ∧ DX Φ w.heap.size w4 q a ∧ CW w Φ (some ⟨g0, o0, none⟩) c3 fl w4 ∧ a.evs = 2 ∧ DX Φ w.heap.size w4 r ⟨2, 0, [], none⟩) := Lib.hid ⟨k + 1, Φ4, a1, by omega, by simp, hX4, hC4, HE1.out, HY.out.ext he4 (fun j => Sd.ne hqr)⟩
      clear D hX4 hC4 he4 q0 q1 q2 q3 q4 q5 q6 q7
      go_wp2_with fail
      go_roundw
      case rel => exact FF.out
      case measure => simp [intOf]; omega
    · obtain rfl : k = m := by omega
      have ST := Lib.hid (stop_cw hX hC)
      have HY := Lib.hid hY
      have HE : Hid (freeX (stopX a) = ⟨2, 0, [], none⟩) := Lib.hid (by unfold freeX stopX; rw [he])
      clear hX hC hY he HX3 HY3 HC3
      go_wp2_with fail
      refine ST.out.mono ?_
      rintro e w4 ⟨rfl, Φ4, hX4, hC4, he4⟩
      have HY4 := Lib.hid (HY.out.ext he4 (fun j => Sd.ne hqr))
      have hdo := do_in (x := (cm 18 0 0 0 0 0 0, [])) hX4 hC4 (cm_in _ _ (by decide))
      change Calls Try.prog 12 _ _ (DoP _ _ _ _ _ _ _ (doX (stopX a) (cm 18 0 0 0 0 0 0))) at hdo
      rw [do_free (runs_stop a), HE.out] at hdo
      have D := Lib.hid hdo
      clear ST hX4 hC4 he4 hdo HY HE
      go_wp2_with fail
      refine D.out.mono ?_
      rintro e w5 ⟨V, d, Φ5, rfl, -, hX5, hC5, he5⟩
      have hb5 := hC5.bel
      have F := Lib.hid (FWB.out w5 hb5)
      have HX5 := Lib.hid hX5
      have HY5 := Lib.hid (HY4.out.ext he5 (fun j => Sd.ne hqr))
      have HN5 := Lib.hid hC5.nu
      clear D hX5 hC5 he5 HY4 FWB
      go_wp2_with fail
      refine F.out.mono ?_
      rintro e w6 ⟨A6, c6, rfl, ho6, hb6⟩
      have HC6 := Lib.hid (few_cw HRB.out HN5.out hb5 hb6 ho6)
      have HX6 := Lib.hid (HX5.out.below hb6)
      have HY6 := Lib.hid (HY5.out.below hb6)
      have hf80 := few_len lB
      obtain ⟨fk, hfk⟩ : ∃ fk, fewX lB = fk := ⟨_, rfl⟩
      rw [hfk] at HC6 hf80 ⊢
      obtain ⟨p, hp⟩ : ∃ p, fk.length = p := ⟨_, rfl⟩
      rw [hp] at hf80 ⊢
      have HP := Lib.hid hp
      clear F HX5 HY5 HN5 ho6 hb6 hfk hp hb5 HRB
      go_wp2_with fail
      go_loopw [67] (fun iv wr => ∃ (k : Nat) (Φ : Who) (a : Dq), k ≤ p ∧ iv = .int .i64 k ∧ DX Φ w.heap.size wr q a ∧ DX Φ w.heap.size wr r a ∧ CW w Φ A6 c6 fk wr) (fun iv _ => p - (intOf iv).toNat)
      case atStart => exact ⟨0, Φ5, _, Nat.zero_le _, rfl, HX6.out, HY6.out, HC6.out⟩
      case round =>
        obtain ⟨k, Φ, a, hk, rfl, hX, hY, hC⟩ := hrel
        by_cases hlt : k < p
        · have hlt' : (k : Int) < p := by omega
          obtain ⟨x, hxk⟩ : ∃ x, fk[k]? = some x := ⟨_, List.getElem?_eq_getElem (by rw [HP.out]; exact hlt)⟩
          obtain ⟨g0, o0, rfl, hr⟩ := hC.cell hxk
          have q0 := hr 0 _ rfl
          have q1 := hr 1 _ rfl
          have q2 := hr 2 _ rfl
          have q3 := hr 3 _ rfl
          have q4 := hr 4 _ rfl
          have q5 := hr 5 _ rfl
          have q6 := hr 6 _ rfl
          have q7 := hr 7 _ rfl
          rw [Nat.add_zero] at q0
          have hxm := List.mem_of_getElem? hxk
          have hb0 := bl1 wr (.cells x.1.cs.toArray 33)
          have hC0 := hC.below hb0
          have D := Lib.hid (do_two (hX.below hb0) (hY.below hb0) hqr hC0 hxm)
          have HXM := Lib.hid hxm
          have BX : BlC Φ (0, 9) (wr.alloc (.cells x.1.cs.toArray 33)) wr.heap.size 33 x.1.cs.toArray := ⟨Blk.new _ _ _, hC.nu _ (Nat.le_refl _)⟩
          have HBX := Lib.hid BX
          have bx := BX.1.cell
          obtain ⟨gx, hgx⟩ : ∃ gx, wr.heap.size = gx := ⟨_, rfl⟩
          obtain ⟨⟨a1, rb, re⟩, hres⟩ : ∃ r, doX a x.1 = r := ⟨_, rfl⟩
          have HRES := Lib.hid hres
          rw [hres] at D
          rw [hgx] at HBX bx
          clear hr hX hY hC hC0 hres hxk hxm hb0 BX
          go_upto_region 18 with fail
          try rw [hgx]
          refine wp_named fun W hW => ?_
          rw [← hW] at D HBX bx
          clear hW hgx q0 q1 q2 q3 q4 q5 q6 q7
          go_wp2_with fail
          refine D.out.mono ?_
          rintro e w7 ⟨V7, d7, Φ7, rfl, ho7, hX7, hY7, hC7, he7⟩
          have BX7 := HBX.out.ext he7 (sd09 q)
          have bx7 := BX7.1.cell
          have hdo := do_two hY7 hX7 (Ne.symm hqr) hC7 HXM.out
          rw [HRES.out] at hdo
          have D2 := Lib.hid hdo
          have HO7 := Lib.hid ho7
          obtain ⟨nb, hnb⟩ : ∃ nb, rb.length = nb := ⟨_, rfl⟩
          have HNB := Lib.hid hnb
          rw [hnb] at D2 HO7 ⊢
          clear D bx hdo ho7 hX7 hY7 hC7 he7 BX7 HBX hnb
          go_wp2_with fail
          refine D2.out.mono ?_
          rintro e w8 ⟨V8, d8, Φ8, rfl, ho8, hY8, hX8, hC8, he8⟩
          have ho7 := HO7.out.ext he8 (sd09 r)
          obtain ⟨sb, hsb⟩ : ∃ sb, bstr rb = sb := ⟨_, rfl⟩
          have cv1 := fun w' => ho7.1.conv (P := Try.prog) Try.underlying31 Try.underlying5 Try.underlying9 HNB.out.symm w'
          have cv2 := fun w' => ho8.1.conv (P := Try.prog) Try.underlying31 Try.underlying5 Try.underlying9 HNB.out.symm w'
          rw [hsb] at cv1 cv2
          have cv1 := cv1 w8 (Below.refl _ _)
          have cv2 := cv2 w8 (Below.refl _ _)
          have L1 := Lib.hid (lists_any hX8)
          have L2 := Lib.hid (fun w' (hb : Below w8.heap.size w8 w') => lists_any (hY8.below hb))
          have hsn : (sb.toList != sb.toList) = false := bne_self_eq_false sb.toList
          have hrn : (re != re) = false := bne_self_eq_false re
          have HX8 := Lib.hid hX8
          have HY8 := Lib.hid hY8
          have HC8 := Lib.hid hC8
          clear D2 ho7 ho8 hX8 hY8 hC8 he8 HO7 hsb bx7
          go_wp2_with fail
          refine L1.out.mono ?_
          rintro e w9 ⟨A9, c9, cl9, rfl, hab9, hO9, hb9⟩
          have L2 := Lib.hid (L2.out w9 hb9)
          have hlen9 : cl9.length = a1.ls.length := by rw [← abs_len, hab9, listsX_len]
          obtain ⟨nl, hnl⟩ : ∃ nl, a1.ls.length = nl := ⟨_, rfl⟩
          rw [hlen9, hnl]
          have HO9 := Lib.hid hO9.rl
          have HAB9 := Lib.hid hab9
          clear L1 cv1 cv2 hsn hrn hab9 hO9
          go_wp2_with fail
          refine L2.out.mono ?_
          rintro e w10 ⟨A10, c10, cl10, rfl, hab10, hO10, hb10⟩
          have hlen10 : cl10.length = a1.ls.length := by rw [← abs_len, hab10, listsX_len]
          rw [hlen10, hnl]
          have hbT := hb9.trans (hb10.mono hb9.size)
          have SM := Lib.hid (same_any (c := c9) (c' := c10) (HO9.out.below hb10) hO10.rl (HAB9.out.trans hab10.symm) (hlen9.trans hnl) (by rw [HAB9.out]; exact ll_lists HX8.out.1))
          have FF : Hid (∀ w', Below w10.heap.size w10 w' → ∃ (k' : Nat) (Φ : Who) (a : Dq), k' ≤ p ∧ Value.int .i64 ((k : Int) + 1) = .int .i64 k' ∧ DX Φ w.heap.size w' q a ∧ DX Φ w.heap.size w' r a ∧ CW w Φ (some ⟨g0, o0, none⟩) c6 fk w') := Lib.hid fun w' hb => by
            have hbb := hbT.trans (hb.mono hbT.size)
            exact ⟨k + 1, Φ8, a1, by omega, by simp, HX8.out.below hbb, HY8.out.below hbb, HC8.out.below hbb⟩
          clear L2 HO9 HAB9 hab10 hO10 hlen9 hlen10 hnl hb9 hb10 hbT HX8 HY8 HC8
          go_wp2_with fail
          refine SM.out.mono ?_
          rintro e w11 ⟨rfl, hb11⟩
          have FG := Lib.hid (FF.out w11 hb11)
          clear SM FF hb11
          go_wp2_with fail
          go_roundw
          case rel => exact FG.out
          case measure => simp [intOf]; omega
        · obtain rfl : k = p := by omega
          have hbel := hC.bel
          clear hX hY hC
          go_wp2_with fail
          go_ret
          exact ⟨rfl, hbel⟩
end Go.Proofs.Ytjjifldgfihjgaa
