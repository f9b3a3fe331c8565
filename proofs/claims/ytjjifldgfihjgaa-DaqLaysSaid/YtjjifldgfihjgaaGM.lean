/- DaqReady: the walk. -/
import Derived.Test.YtjjifldgfihjgaaGL
import Derived.Test.YtjjifldgfihjgaaGK
namespace Go.Proofs.Ytjjifldgfihjgaa
open Go.RowKit
set_option linter.unusedVariables false
set_option linter.unusedSimpArgs false
/-- What is asked of the list i that is told. -/
structure RdyAt (ls : List Ls) (i : Nat) (x : Ls) : Prop where
  first : x.first = ((manyT (ls.take i) : Nat) : Int)
  next : manyT (ls.take (i + 1)) = manyT (ls.take i) + x.tabs.length
  m16 : manyT (ls.take (i + 1)) ≤ 16
  pre : 0 < x.pre ∧ x.pre < 256
  ev : 0 ≤ x.ev ∧ x.ev < 4
  n7 : ∀ t ∈ x.tabs, t.length ≤ 7
  sum : ∀ t ∈ x.tabs, sumE t ≤ 7
  wf : ∀ t ∈ x.tabs, ∀ e ∈ t, e.wf
  full : x.on = true ∨ x.ch = true → readyX x = true
theorem rdy_at {a : Dq} (h : Good a) (ok : a.ok) (he : a.evs = 4) {i : Nat} {x : Ls} (hx : (listsX a.ls)[i]? = some x) : RdyAt a.ls i x := by
  unfold listsX at hx
  rw [lsts_get] at hx
  cases hz : a.ls[i]? with
  | none => rw [hz] at hx; cases hx
  | some z =>
    rw [hz] at hx
    simp only [Option.map_some, Option.some.injEq, Nat.zero_add] at hx
    subst hx
    have hm := List.mem_of_getElem? hz
    have g := h z hm
    have ge := g.ev
    rw [he] at ge
    have hk := many_take a.ls i z hz
    exact ⟨rfl, hk, Nat.le_trans (many_le _ _) ok.m16, g.pre, ⟨ge.1, by have := ge.2; show z.ev < 4; omega⟩, ok.t7 z hm, g.sum, ok.wf z hm, fun hh => (ready_tabs rfl).trans (g.full hh)⟩
theorem many_all (l : List Ls) {n : Nat} (h : l.length ≤ n) : manyT (l.take n) = manyT l := by rw [List.take_of_length_le h]
theorem sumE_part {l : List En} (h : ∀ e ∈ l, e.wf) (k : Nat) : 0 ≤ sumE (l.take k) ∧ sumE (l.take k) ≤ 256 * (l.take k).length := sumE_le _ fun e he => h e (List.mem_of_mem_take he)
theorem listsX_len (l : List Ls) : (listsX l).length = l.length := lsts_len l 0
set_option maxRecDepth 100000 in
set_option maxHeartbeats 8000000 in
theorem ready_law (A : Option Addr) (n c : Nat) (l : List Cb) (w : World) (hx : l.length = n) (hl : n ≤ maxLen) (hr : RCs w A l) : Calls Try.prog 3 #[.slice A n c] w fun e w' => e = .returned (.bool true) ∧ Below w.heap.size w w' := by
  have SH := Lib.hid (shown_any w)
  have HR := Lib.hid hr
  have FW := Lib.hid (fun w' (hb : Below w.heap.size w w') => few_any A n c l w' hx hl (hr.bel hb))
  clear hx hl hr
  go_enter Try.func3, Try.ntmps3
  go_wp2_with fail
  refine SH.out.mono ?_
  rintro e w1 ⟨rfl, hb1⟩
  have N1 := Lib.hid (newd_any (fun _ => (0, 9)) w.heap.size 4 w1 hb1.size (nu0 w1) (by decide) (by decide))
  clear SH
  go_wp2_with fail
  refine N1.out.mono ?_
  rintro e w2 ⟨q, Φ2, rfl, hq, hX2, hx2⟩
  have hb2 := hb1.trans (hx2.below hb1.size)
  have HX2 := Lib.hid hX2
  have HN2 := Lib.hid hx2.nu
  have F := Lib.hid (FW.out w2 hb2)
  clear N1 hX2 hx2 FW hb1
  go_wp2_with fail
  refine F.out.mono ?_
  rintro e w3 ⟨A3, c3, rfl, ho3, hb3⟩
  have hcm := few_in (HR.out.bel hb2)
  have hf80 := few_len l
  obtain ⟨fl, hfl⟩ : ∃ fl, fewX l = fl := ⟨_, rfl⟩
  rw [hfl] at ho3 hcm hf80 ⊢
  have HC3 : Hid (CW w Φ2 A3 c3 fl w3) := Lib.hid ⟨OwC.fresh (ho3.more hb2.size) HN2.out (fun g hg => (ho3.lt hg).1), fun x hx => ((fun (k : CbIn w w.heap.size x) => k.below (hb2.trans (hb3.mono hb2.size))) (by
    have hcm' := few_in HR.out
    rw [hfl] at hcm'
    exact hcm' x hx)), HN2.out.below hb3, hb2.trans (hb3.mono hb2.size)⟩
  have HX3 : Hid (DX Φ2 w.heap.size w3 q ⟨4, 0, [], none⟩) := Lib.hid (HX2.out.below hb3)
  obtain ⟨m, hm⟩ : ∃ m, fl.length = m := ⟨_, rfl⟩
  rw [hm] at hf80 ⊢
  have HM := Lib.hid hm
  clear F HX2 HN2 HR ho3 hb3 hcm hfl hm hb2
  go_wp2_with fail
  go_loopw [32] (fun iv wr => ∃ (k : Nat) (Φ : Who) (a : Dq), k ≤ m ∧ iv = .int .i64 k ∧ DX Φ w.heap.size wr q a ∧ CW w Φ A3 c3 fl wr ∧ Good a ∧ a.evs = 4) (fun iv _ => m - (intOf iv).toNat)
  case atStart => exact ⟨0, Φ2, _, Nat.zero_le _, rfl, HX3.out, HC3.out, (fun x hx => by cases hx), rfl⟩
  case round =>
    obtain ⟨k, Φ, a, hk, rfl, hX, hC, hG, he⟩ := hrel
    by_cases hlt : k < m
    · have hlt' : (k : Int) < m := by omega
      obtain ⟨x, hxk⟩ : ∃ x, fl[k]? = some x := ⟨_, List.getElem?_eq_getElem (by rw [HM.out]; exact hlt)⟩
      obtain ⟨g0, o0, rfl, hr⟩ := hC.cell hxk
      have q0 := hr 0 _ rfl
      have q1 := hr 1 _ rfl
      have q2 := hr 2 _ rfl
      have q3 := hr 3 _ rfl
      have q4 := hr 4 _ rfl
      have q5 := hr 5 _ rfl
      have q6 := hr 6 _ rfl
      have q7 := hr 7 _ rfl
      rw [Nat.add_zero] at q0
      have hxm := List.mem_of_getElem? hxk
      have D := Lib.hid (do_cw (hX.below (bl1 wr (.cells x.1.cs.toArray 33))) (hC.below (bl1 wr (.cells x.1.cs.toArray 33))) hxm)
      have hG1 := good_do hG (by omega) x.1 (hC.cmds x hxm).wf
      have hE1 := evs_run a x.1
      rw [he] at hE1
      obtain ⟨⟨a1, rb, re⟩, hres⟩ : ∃ r, doX a x.1 = r := ⟨_, rfl⟩
      rw [hres] at D hG1 hE1
      dsimp only at hG1 hE1
      have HG1 := Lib.hid hG1
      have HE1 := Lib.hid hE1
      clear hr hX hC hG he hG1 hE1 hres hxk hxm
      go_wp2_with fail
      refine D.out.mono ?_
      rintro e w4 ⟨V, d, Φ4, rfl, -, hX4, hC4, -⟩
      have LS := Lib.hid (lists_any hX4)
      have HX4 := Lib.hid hX4
      have HC4 := Lib.hid hC4
      clear D hX4 hC4 q0 q1 q2 q3 q4 q5 q6 q7
      go_wp2_with fail
      refine LS.out.mono ?_
      rintro e w5 ⟨A5, c5, cl, rfl, hab, hO, hb5⟩
      have FIN : Hid (∀ w', Below w5.heap.size w5 w' → ∃ (k' : Nat) (Φ : Who) (a : Dq), k' ≤ m ∧ Value.int .i64 ((k : Int) + 1) = .int .i64 k' ∧ DX Φ w.heap.size w' q a ∧ CW w Φ (some ⟨g0, o0, none⟩) c3 fl w' ∧ Good a ∧ a.evs = 4) := Lib.hid fun w' hb => by
        have hbb := hb5.trans (hb.mono hb5.size)
        exact ⟨k + 1, Φ4, a1, by omega, by simp, HX4.out.below hbb, HC4.out.below hbb, HG1.out, HE1.out⟩
      have RR := Lib.hid hO.rl
      have AT : Hid (∀ (i : Nat) (x : Lc), cl[i]? = some x → RdyAt a1.ls i x.ab) := Lib.hid fun i x hx => rdy_at HG1.out HX4.out.1 HE1.out (by rw [← hab]; exact abs_get hx)
      have hcl : cl.length = a1.ls.length := by rw [← abs_len, hab, listsX_len]
      have hcl4 : cl.length ≤ 4 := by rw [hcl]; exact HX4.out.1.n4
      have hmm : manyT (a1.ls.take cl.length) ≤ 16 := Nat.le_trans (many_le _ _) HX4.out.1.m16
      obtain ⟨nl, hnl⟩ : ∃ nl, cl.length = nl := ⟨_, rfl⟩
      have HNL := Lib.hid hnl
      rw [hnl] at hcl4 hmm ⊢
      have hnI : (nl : Int) ≤ 4 := by omega
      clear LS HX4 HC4 hO hab hcl hnl HG1 HE1
      go_wp2_with fail
      go_loopw [43, 9] (fun iv nv wr => ∃ i : Nat, i ≤ nl ∧ iv = .int .i64 i ∧ nv = .int .i64 (manyT (a1.ls.take i) : Nat) ∧ Below w5.heap.size w5 wr) (fun iv _ _ => nl - (intOf iv).toNat)
      case atStart => exact ⟨0, Nat.zero_le _, rfl, rfl, Below.refl _ _⟩
      case round =>
        obtain ⟨i, hi, rfl, rfl, hb⟩ := hrel
        by_cases hil : i < nl
        · have hil' : (i : Int) < nl := by omega
          obtain ⟨x, hx⟩ : ∃ x, cl[i]? = some x := ⟨_, List.getElem?_eq_getElem (by rw [HNL.out]; exact hil)⟩
          have hR := RR.out.below hb
          obtain ⟨g, o, rfl⟩ := hR.row.some_ (ne_nil_of_get (lcells_at hx (j := 0) rfl))
          have rx := fun j u hu => hR.row.rule (lcells_at hx (j := j) (u := u) hu) wr (Below.refl _ _)
          have r0 := rx 0 _ rfl
          have r1 := rx 1 _ rfl
          have r2 := rx 2 _ rfl
          have r3 := rx 3 _ rfl
          have r4 := rx 4 _ rfl
          have r5 := rx 5 _ rfl
          have r6 := rx 6 _ rfl
          have r7 := rx 7 _ rfl
          rw [Nat.add_zero] at r0
          rw [← Nat.add_assoc] at r1 r2 r3 r4 r5 r6 r7
          have at_ := AT.out i x hx
          have hxl : x.ab.tabs.length = x.tabs.length := by simp [Lc.ab]
          have hf : x.first = ((manyT (a1.ls.take i) : Nat) : Int) := at_.first
          have hnx : manyT (a1.ls.take (i + 1)) = manyT (a1.ls.take i) + x.tabs.length := by rw [← hxl]; exact at_.next
          have h16 := at_.m16
          have hp1 : 0 < x.pre := at_.pre.1
          have hev : x.ev < 4 := at_.ev.2
          have hev0 : 0 ≤ x.ev := at_.ev.1
          rw [hf] at r0
          obtain ⟨f0, hf0⟩ : ∃ f0, manyT (a1.ls.take i) = f0 := ⟨_, rfl⟩
          obtain ⟨f1, hf1⟩ : ∃ f1, manyT (a1.ls.take (i + 1)) = f1 := ⟨_, rfl⟩
          have HF1 := Lib.hid hf1
          obtain ⟨nt, hnt⟩ : ∃ nt, x.tabs.length = nt := ⟨_, rfl⟩
          have HNT := Lib.hid hnt
          rw [hf0] at r0 hnx ⊢
          rw [hf1] at hnx h16
          rw [hnt] at r1 hnx
          have TX := Lib.hid (RR.out.tab i x hx)
          have EX := Lib.hid (fun j t ht => RR.out.ent i x j t hx ht)
          obtain ⟨xA, hxA⟩ : ∃ xA, x.A = xA := ⟨_, rfl⟩
          rw [hxA] at r1 TX
          have hpd : (x.pre == 0) = false := by simp; omega
          have hwe : IntKind.i64.wrap x.ev = x.ev := IntWalk.i64_in _ (by omega)
          have hed : decide ((4 : Int) ≤ x.ev) = false := decide_eq_false (by omega)
          have hf01 : (f0 : Int) + nt = f1 := by omega
          have hnt16 : (nt : Int) ≤ 16 := by omega
          have hf16 : (f1 : Int) ≤ 16 := by omega
          have FU : Hid (x.on = true ∨ x.ch = true → readyX x.ab = true) := Lib.hid at_.full
          have TT : Hid (∀ t ∈ x.tabs, t.es.length ≤ 7 ∧ sumE t.es ≤ 7 ∧ ∀ e ∈ t.es, e.wf) := Lib.hid fun t ht => by
            have hm : t.es ∈ x.ab.tabs := List.mem_map.2 ⟨t, ht, rfl⟩
            exact ⟨at_.n7 _ hm, at_.sum _ hm, at_.wf _ hm⟩
          have RE : Hid (readyX x.ab = true → nt ≠ 0 ∧ ∀ t ∈ x.tabs, t.es ≠ [] ∧ ∀ e ∈ t.es, e.size ≠ 0) := Lib.hid fun h => ⟨fun h0 => by
            have := ready_ne h
            rw [h0] at hnt
            exact this (by rw [show x.ab.tabs = x.tabs.map Tb.ab from rfl, List.eq_nil_of_length_eq_zero hnt]; rfl), fun t ht => ready_mem h (List.mem_map.2 ⟨t, ht, rfl⟩)⟩
          have hz := hb.size
          clear rx hR at_ hf hf0 hf1 hnt hxA hx hxl hnx h16
          go_upto_region 14 with fail
          refine wp_named fun W hW => ?_
          obtain ⟨BX, hbW⟩ := blk1 (c1 := #[.int .i64 f0, .slice xA nt x.c, .bool x.stim, .int .u8 x.ev, .int .u8 x.pre, .int .u8 x.pri, .bool x.on, .bool x.ch]) hW
          have bx := BX.cell
          obtain ⟨gx, hgx⟩ : ∃ gx, wr.heap.size = gx := ⟨_, rfl⟩
          rw [hgx] at BX bx ⊢
          have hbb := hb.trans (hbW.mono hz)
          clear hW hgx r0 r1 r2 r3 r4 r5 r6 r7
          go_wp2_with fail
          clear bx
          go_loopw [74, 12] (fun jv fv wr => ∃ (j : Nat) (b : Bool), j ≤ nt ∧ jv = .int .i64 j ∧ fv = .bool b ∧ Hid (readyX x.ab = true → b = true) ∧ Below W.heap.size W wr) (fun jv _ _ => nt - (intOf jv).toNat)
          case atStart =>
            refine ⟨0, decide (0 < nt), Nat.zero_le _, rfl, rfl, Lib.hid fun h => ?_, Below.refl _ _⟩
            have := (RE.out h).1
            exact decide_eq_true (by omega)
          case round =>
            obtain ⟨j, b, hj, rfl, rfl, hb0, hbt⟩ := hrel
            by_cases hjl : j < nt
            · have hjl' : (j : Int) < nt := by omega
              obtain ⟨t, ht⟩ : ∃ t, x.tabs[j]? = some t := ⟨_, List.getElem?_eq_getElem (by rw [HNT.out]; exact hjl)⟩
              have hTr := TX.out.bel (hbb.trans (hbt.mono hbb.size))
              obtain ⟨g2, o2, rfl⟩ := hTr.some_ (ne_nil_of_get (tcells_at ht))
              have s0 := hTr.rule (tcells_at ht) wr (Below.refl _ _)
              have ER := Lib.hid ((EX.out j t ht).bel (hbb.trans (hbt.mono hbb.size)))
              obtain ⟨t7, ts, tw⟩ := TT.out t (List.mem_of_getElem? ht)
              have TW := Lib.hid tw
              have RT : Hid (readyX x.ab = true → b = true ∧ t.es ≠ [] ∧ ∀ e ∈ t.es, e.size ≠ 0) := Lib.hid fun h => ⟨hb0.out h, (RE.out h).2 t (List.mem_of_getElem? ht)⟩
              obtain ⟨te, hte⟩ : ∃ te, t.es.length = te := ⟨_, rfl⟩
              have HTE := Lib.hid hte
              rw [hte] at s0 t7
              obtain ⟨tA, htA⟩ : ∃ tA, t.A = tA := ⟨_, rfl⟩
              rw [htA] at s0 ER
              have t7I : (te : Int) ≤ 7 := by omega
              have t7d : decide ((7 : Int) < te) = false := decide_eq_false (by omega)
              have TS := Lib.hid ts
              have BT := Lib.hid hbt
              have hzt := hbt.size
              have HT := Lib.hid ht
              have HTA := Lib.hid htA
              clear hTr tw ht hte htA hb0 ts hbt
              have hcs : (b = false ∧ ∃ b2, b2 = false ∧ Hid (readyX x.ab = true → b2 = true)) ∨ (b = true ∧ te = 0 ∧ ∃ b2, b2 = false ∧ Hid (readyX x.ab = true → b2 = true)) ∨ (b = true ∧ 0 < te ∧ ∃ b2, b2 = true ∧ Hid (readyX x.ab = true → b2 = true)) := by
                cases hb : b with
                | false => exact .inl ⟨rfl, false, rfl, Lib.hid fun h => by have := (RT.out h).1; rw [hb] at this; exact this⟩
                | true =>
                  rcases Nat.eq_zero_or_pos te with h0 | h0
                  · exact .inr (.inl ⟨rfl, h0, false, rfl, Lib.hid fun h => absurd (List.eq_nil_of_length_eq_zero (HTE.out.trans h0)) (RT.out h).2.1⟩)
                  · exact .inr (.inr ⟨rfl, h0, true, rfl, Lib.hid fun _ => rfl⟩)
              rcases hcs with ⟨rfl, b2, rfl, HB⟩ | ⟨rfl, h0, b2, rfl, HB⟩ | ⟨rfl, h0, b2, rfl, HB⟩
              case' inr.inl =>
                have hdd : decide (0 < te) = false := decide_eq_false (by omega)
                have hdi : decide ((0 : Int) < te) = false := decide_eq_false (by omega)
                clear h0
              case' inr.inr =>
                have h0I : (0 : Int) < te := by omega
              all_goals
                go_wp2_with fail
                go_loopw [86, 15, 12] (fun zv sv fv wr => ∃ (z : Nat) (b : Bool), z ≤ te ∧ zv = .int .i64 z ∧ sv = .int .i64 (sumE (t.es.take z)) ∧ fv = .bool b ∧ Hid (readyX x.ab = true → b = true) ∧ Below W.heap.size W wr) (fun zv _ _ _ => te - (intOf zv).toNat)
                case atStart => exact ⟨0, _, Nat.zero_le _, rfl, rfl, rfl, by first | exact HB | exact Lib.hid fun _ => rfl, BT.out⟩
                case round =>
                  obtain ⟨z, b, hz4, rfl, rfl, rfl, hb4, hbz⟩ := hrel
                  have HBZ := Lib.hid hbz
                  by_cases hzl : z < te
                  · have hzl' : (z : Int) < te := by omega
                    obtain ⟨e, he⟩ : ∃ e, t.es[z]? = some e := ⟨_, List.getElem?_eq_getElem (by rw [HTE.out]; exact hzl)⟩
                    have hEr := (EX.out j t HT.out).bel (hbb.trans (hbz.mono hbb.size))
                    rw [HTA.out] at hEr
                    obtain ⟨g4, o4, rfl⟩ := hEr.some_ (ne_nil_of_get (ecells_at he (j := 0) rfl))
                    have e0 := hEr.rule (ecells_at he (j := 0) rfl) wr (Below.refl _ _)
                    have e1 := hEr.rule (ecells_at he (j := 1) rfl) wr (Below.refl _ _)
                    have e2 := hEr.rule (ecells_at he (j := 2) rfl) wr (Below.refl _ _)
                    rw [Nat.add_zero] at e0
                    rw [← Nat.add_assoc] at e1 e2
                    have ew := TW.out e (List.mem_of_getElem? he)
                    have es0 := ew.s0
                    have es1 := ew.s1
                    have hwe : IntKind.i64.wrap e.size = e.size := IntWalk.i64_in _ (by omega)
                    have hst := sumE_take _ _ _ he
                    have hsp := sumE_part TW.out z
                    have hsl : (t.es.take z).length ≤ 7 := by rw [List.length_take, HTE.out]; omega
                    obtain ⟨S0, hS0⟩ : ∃ S0, sumE (t.es.take z) = S0 := ⟨_, rfl⟩
                    obtain ⟨S1, hS1⟩ : ∃ S1, sumE (t.es.take (z + 1)) = S1 := ⟨_, rfl⟩
                    have HS1 := Lib.hid hS1
                    rw [hS0, hS1] at hst
                    rw [hS0] at hsp ⊢
                    have hS2 : S0 ≤ 2000 := by omega
                    have hS3 : 0 ≤ S0 := hsp.1
                    have hS01 : S0 + e.size = S1 := by omega
                    have hcs : (b = false ∧ ∃ b2, b2 = false ∧ Hid (readyX x.ab = true → b2 = true)) ∨ (b = true ∧ e.size = 0 ∧ ∃ b2, b2 = false ∧ Hid (readyX x.ab = true → b2 = true)) ∨ (b = true ∧ 0 < e.size ∧ ∃ b2, b2 = true ∧ Hid (readyX x.ab = true → b2 = true)) := by
                      cases hb : b with
                      | false => exact .inl ⟨rfl, false, rfl, Lib.hid fun h => by have := hb4.out h; rw [hb] at this; exact this⟩
                      | true =>
                        rcases Int.lt_or_le 0 e.size with h0 | h0
                        · exact .inr (.inr ⟨rfl, h0, true, rfl, Lib.hid fun _ => rfl⟩)
                        · exact .inr (.inl ⟨rfl, by omega, false, rfl, Lib.hid fun h => absurd (by omega) ((RT.out h).2.2 e (List.mem_of_getElem? he))⟩)
                    clear hst hsp hsl hS0 hS1 ew he hEr hbz hb4
                    rcases hcs with ⟨rfl, b2, rfl, HB2⟩ | ⟨rfl, h0, b2, rfl, HB2⟩ | ⟨rfl, h0, b2, rfl, HB2⟩
                    case' inr.inl =>
                      have hdi : decide ((0 : Int) < e.size) = false := decide_eq_false (by omega)
                      clear h0
                    all_goals
                      go_wp2_with fail
                      go_roundw
                      case rel => exact ⟨z + 1, _, by omega, by go_num, by rw [HS1.out], rfl, by first | exact HB2 | exact Lib.hid fun _ => rfl, HBZ.out.trans ((bl1 wr _).mono HBZ.out.size)⟩
                      case measure => simp [intOf]; omega
                  · obtain rfl : z = te := by omega
                    have hS : sumE (t.es.take z) = sumE t.es := by rw [List.take_of_length_le (by rw [HTE.out]; exact Nat.le_refl _)]
                    have hS7 := TS.out
                    rw [hS]
                    obtain ⟨S, hSS⟩ : ∃ S, sumE t.es = S := ⟨_, rfl⟩
                    rw [hSS] at hS7 ⊢
                    have hSd : decide ((7 : Int) < S) = false := decide_eq_false (by omega)
                    clear hS hSS hbz
                    go_wp2_with fail
                    go_roundw
                    case rel => exact ⟨j + 1, _, by omega, by go_num, rfl, by first | exact hb4 | exact Lib.hid fun _ => rfl, HBZ.out⟩
                    case measure => simp [intOf]; omega
            · obtain rfl : j = nt := by omega
              have HBW := Lib.hid (hbb.trans (hbt.mono hbb.size))
              have bx := (BX.below hbt).cell
              obtain ⟨on, hon⟩ : ∃ on, x.on = on := ⟨_, rfl⟩
              obtain ⟨ch, hch⟩ : ∃ ch, x.ch = ch := ⟨_, rfl⟩
              rw [hon, hch] at bx
              have hfu : (on = false ∧ ch = false) ∨ b = true := by
                have h := FU.out
                rw [hon, hch] at h
                cases on with
                | true => exact .inr (hb0.out (h (.inl rfl)))
                | false => cases ch with
                  | true => exact .inr (hb0.out (h (.inr rfl)))
                  | false => exact .inl ⟨rfl, rfl⟩
              clear hon hch hbt hb0
              rcases hfu with ⟨rfl, rfl⟩ | rfl
              case' inr => cases on <;> cases ch
              all_goals
                go_wp2_with fail
                go_roundw
                case rel => exact ⟨i + 1, by omega, by go_num, by rw [HF1.out], HBW.out⟩
                case measure => simp [intOf]; omega
        · obtain rfl : i = nl := by omega
          obtain ⟨f0, hf0⟩ : ∃ f0, manyT (a1.ls.take i) = f0 := ⟨_, rfl⟩
          rw [hf0] at hmm ⊢
          have hfd : decide ((16 : Int) < f0) = false := decide_eq_false (by omega)
          have h4d : decide ((4 : Int) < i) = false := decide_eq_false (by omega)
          have HB := Lib.hid hb
          clear hb hf0
          go_wp2_with fail
          go_roundw
          case rel => exact FIN.out _ HB.out
          case measure => simp [intOf]; omega
    · obtain rfl : k = m := by omega
      have hbel := hC.bel
      clear hX hC hG he
      go_wp2_with fail
      go_ret
      exact ⟨rfl, hbel⟩
end Go.Proofs.Ytjjifldgfihjgaa
