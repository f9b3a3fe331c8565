/- The slave's session: Seed, Unlock. -/
import Derived.Test.YteecgdbicokgoaaS1
import Derived.Deep.RegionHeld3
import Derived.Deep.RegionLaw
namespace Go.Proofs.Yteecgdbicokgoaa
open Go.RowKit
set_option linter.unusedVariables false
set_option linter.unusedSimpArgs false
set_option maxRecDepth 100000
set_option maxHeartbeats 4000000 in
theorem ses_seed {w : World} {L T N s m l : Nat} {x : St} (h : TA w L T N s m l x) (c : Cm) (hw : c.wf) (hc : c.code = 12) {A : Option Addr} {n cap : Nat} {xs : List Int} (hx : xs.length = n) (hb : By T 5 w A (u8s xs)) (hu : by8 xs) {a' : LX} {k : Int} {bs : List Int} (hr : seedX x.a c.a0 c.a1 xs = (a', k, bs, 0)) (hk : 0 ≤ k ∧ k < 256) (hbl : bs.length ≤ 6) :
    Calls Try.prog 85 #[.pointer (some ⟨s, 0, none⟩), c.val, .slice A n cap] w (AnsS w L T s m l { x with a := a' } (k :: bs)) := by
  have hbw := bl1 w (.cells c.cs.toArray 35)
  have hcc := (Blk.new w 35 c.cs.toArray).cell
  have H1 := h.below hbw
  have hsl := Blk.cell H1.sl
  have HH := Lib.hid H1
  have HB := Lib.hid hbw
  have SD := Lib.hid (fun w' (hb' : Below (w.alloc (.cells c.cs.toArray 35)).heap.size (w.alloc (.cells c.cs.toArray 35)) w') => seed_any ((H1.below hb').lk) (H1.below hb').tz c.a0 c.a1 hw.h0.1 hw.h1.1 hw.h1.2 A n cap xs hx ((hb.below hbw).below hb') hu)
  rw [hr] at SD
  obtain ⟨code, a0, a1, a2, a3, a4, cw, bA, bn, bc⟩ := c
  simp only at hc
  subst hc
  clear h hbw H1 hb hr hw
  go_enter Try.func85, Try.ntmps85
  go_upto_region 16 with fail
  have SD1 := Lib.hid (SD.out _ ((Below.refl _ _).drew))
  go_region_with (first | (go_at_call 115; refine SD1.out.mono ?_; rintro e w4 ⟨A4, m4, c4, rfl, hl4, ho4, hL4, hc4⟩))
  all_goals
    simp only [Act.put, List.setIfInBounds_toArray, List.set_cons_zero, List.set_cons_succ, Nat.reduceAdd, List.getElem?_toArray, List.getElem?_cons_zero, List.getElem?_cons_succ, Option.bind_some]
    try dsimp only at hl4 ho4 hL4
    subst hl4
    have hd4 := (Below.refl (w.alloc (.cells (⟨12, a0, a1, a2, a3, a4, cw, bA, bn, bc⟩ : Cm).cs.toArray 35)).heap.size (w.alloc (.cells (⟨12, a0, a1, a2, a3, a4, cw, bA, bn, bc⟩ : Cm).cs.toArray 35))).drew
    have FIN4 := Lib.hid ((HH.out.below hd4).lock (N' := w4.heap.size) hL4 (fun i hi => by
      have hz := hc4.size
      have h1 := HH.out.n
      have h2 := HH.out.tz
      have h3 := hd4.size
      rcases hi with hi | hi <;> omega) (Nat.le_refl _) hc4)
    have HZ4 := Lib.hid (Nat.le_trans (Nat.le_trans HB.out.size hd4.size) hc4.size)
    have CH4 := Lib.hid (((ChR.of_below HB.out L [146, 109, 221] L T).grow hd4).trans FIN4.out.2)
    have MO := Lib.hid (fun w => must_ok w)
    have hwk : IntKind.u8.wrap k = k := IntWalk.u8_in _ (by omega)
    have HO4 := Lib.hid ho4
    have HBL := Lib.hid hbl
    clear hL4 hc4 ho4 hd4 SD SD1 hsl hcc hbl
    go_wp2_with fail
    refine (MO.out _).mono ?_
    rintro e w5 ⟨rfl, rfl⟩
    have BK := Blk.new w4 5 #[.int .u8 k]
    have hb4 := bl1 w4 (.cells #[.int .u8 k] 5)
    have WO := Lib.hid ((Own.made (e := 5) (size := 1) w4 (Nat.le_refl _) #[.int .u8 k] 1 1 (by decide) (by decide) rfl))
    have WR := Lib.hid ((HO4.out.below hb4).rd)
    have HB4 := Lib.hid hb4
    have hz44 : w4.heap.size ≤ (w4.alloc (.cells #[.int .u8 k] 5)).heap.size := hb4.size
    clear hb4 BK
    obtain ⟨q, hq⟩ : ∃ q, bs.length = q := ⟨_, rfl⟩
    have HQ := Lib.hid hq
    rw [hq]
    have hqm : 1 + q ≤ maxLen := by unfold maxLen; have := HBL.out; omega
    have hqb : (1 + q) * 1 ≤ 140737488355328 := by have := HBL.out; omega
    have hql : (u8s bs).length = q * 1 := by simp [hq]
    clear hq
    go_wp2_with (at_builtin; refine wpList_app _ rfl (.tmp 80) (.tmp 81) 22 rfl w4.heap.size 5 (.int .u8 0) 1 1 Try.underlying22 info5 rfl (by decide) (some ⟨w4.heap.size, 0, none⟩) 1 1 [.int .u8 k] rfl WO.out _ A4 q c4 (u8s bs) rfl hql WR.out (u8s_one _) hqm hqb hz44 ?_; intro A6 c6 w6 ho6 hg6 hbk6)
    have PS := Lib.hid (fun w => pos_any A6 (1 + q) c6 w)
    have hb6 : Below w4.heap.size w4 w6 := bel_app HB4.out WO.out (Nat.le_refl _) hg6
    have hq1 : (k :: bs).length = 1 + q := by rw [List.length_cons, HQ.out]; omega
    have PL := Lib.hid (PosP.own (w := w) (w5 := w6) (Nat.le_trans HZ4.out hb6.size) (bs := k :: bs) hq1 (ho6.more HZ4.out))
    have HB6 := Lib.hid hb6
    clear ho6 hg6 hbk6 hb6 WO WR
    go_wp2_with fail
    refine (PS.out _).mono ?_
    rintro e w7 ⟨rfl, rfl⟩
    have FB := Lib.hid (HB6.out.trans ((bl1 w6 (.cells #[.int .u8 1, .int .u8 0, .slice A6 (1 + q) c6] 82)).mono HB6.out.size))
    go_wp2_with fail
    go_ret
    exact ⟨_, rfl, PL.out, (FIN4.out.1.below FB.out).more FB.out.size (Nat.le_refl _), CH4.out.grow FB.out⟩
end Go.Proofs.Yteecgdbicokgoaa
