/- DaqStays: the walk. -/
import Derived.Test.YtjjifldgfihjgaaGM
namespace Go.Proofs.Ytjjifldgfihjgaa
open Go.RowKit
set_option linter.unusedVariables false
set_option linter.unusedSimpArgs false
/-- Lists of a call's own stay through what a Daq's call writes. -/
theorem OT.ext {w w' : World} {base B q : Nat} {Φ Φ' : Who} {A : Option Addr} {c : Nat} {l : List Tb} (h : OT w base A c l) (he : Ext B (Sd q) Φ Φ' w w') (hN : ∀ g, base ≤ g → g < w.heap.size → Φ g = (0, 9)) : OT w' base A c l := by
  have k : ∀ {e : TypeId} {size n c : Nat} {A : Option Addr} {xs : List Value}, Own w base e size A n c xs → Own w' base e size A n c xs := fun ho => ho.ext he fun g hg hx => by
    have h1 := ho.lt hg
    have h2 := hx.2
    rw [hN g h1.1 h1.2] at h2
    exact sd09 q h2
  exact ⟨k h.row, fun i t ht => k (h.ent i t ht), h.inj⟩
theorem OL.ext {w w' : World} {base B q : Nat} {Φ Φ' : Who} {A : Option Addr} {c : Nat} {l : List Lc} (h : OL w base A c l) (he : Ext B (Sd q) Φ Φ' w w') (hN : ∀ g, base ≤ g → g < w.heap.size → Φ g = (0, 9)) : OL w' base A c l :=
  ⟨h.row.ext he fun g hg hx => by
    have h1 := h.row.lt hg
    have h2 := hx.2
    rw [hN g h1.1 h1.2] at h2
    exact sd09 q h2, fun i x hx => (h.tab i x hx).ext he hN, h.inj⟩
theorem LL.one {ls : List Ls} (h : LL ls) {i : Nat} {x : Ls} (hx : ls[i]? = some x) : LL [x] := by
  have hm := List.mem_of_getElem? hx
  refine ⟨by show (1 : Nat) ≤ 4; decide, fun z hz => ?_, fun z hz => ?_⟩
  · rw [List.mem_singleton] at hz
    rw [hz]
    exact h.t x hm
  · rw [List.mem_singleton] at hz
    rw [hz]
    exact h.e x hm
theorem Lc.ab_eq {x y : Lc} (h : ({ y.ab with on := x.on, ch := x.ch } : Ls) = x.ab) : ({ y with on := x.on, ch := x.ch } : Lc).ab = x.ab := h
/-- One list, in a block of its own. -/
theorem RL.one {w : World} {A : Option Addr} {l : List Lc} (h : RL w A l) {i : Nat} {x y : Lc} (hx : l[i]? = some x) (hy : y.A = x.A ∧ y.tabs = x.tabs) {g : Nat} {t : TypeId} (hB : Blk w g t y.cs.toArray) : RL w (some ⟨g, 0, none⟩) [y] := by
  refine ⟨?_, fun j z hz => ?_, fun j z k u hz hu => ?_⟩
  · have := hB.rd
    have e : lcells [y] = y.cs := by simp [lcells, flatC]
    rw [e]
    first | exact this | simpa using this
  · cases j with
    | zero =>
      simp at hz
      subst hz
      rw [hy.1, hy.2]
      exact h.tab i x hx
    | succ j => simp at hz
  · cases j with
    | zero =>
      simp at hz
      subst hz
      rw [hy.2] at hu
      exact h.ent i x k u hx hu
    | succ j => simp at hz
set_option maxRecDepth 100000 in
set_option maxHeartbeats 8000000 in
theorem stays_law (A : Option Addr) (n c : Nat) (l : List Cb) (w : World) (hx : l.length = n) (hl : n ≤ maxLen) (hr : RCs w A l) : Calls Try.prog 4 #[.slice A n c] w fun e w' => e = .returned (.bool true) ∧ Below w.heap.size w w' := by
  have SH := Lib.hid (shown_any w)
  have HR := Lib.hid hr
  have FW := Lib.hid (fun w' (hb : Below w.heap.size w w') => few_any A n c l w' hx hl (hr.bel hb))
  clear hx hl hr
  go_enter Try.func4, Try.ntmps4
  go_wp2_with fail
  refine SH.out.mono ?_
  rintro e w1 ⟨rfl, hb1⟩
  have N1 := Lib.hid (newd_any (fun _ => (0, 9)) w.heap.size 4 w1 hb1.size (nu0 w1) (by decide) (by decide))
  clear SH
  go_wp2_with fail
  refine N1.out.mono ?_
  rintro e w2 ⟨q, Φ2, rfl, hq, hX2, hx2⟩
  have hb2 := hb1.trans (hx2.below hb1.size)
  have HX2 := Lib.hid hX2
  have HN2 := Lib.hid hx2.nu
  have F := Lib.hid (FW.out w2 hb2)
  clear N1 hX2 hx2 FW hb1
  go_wp2_with fail
  refine F.out.mono ?_
  rintro e w3 ⟨A3, c3, rfl, ho3, hb3⟩
  have hcm := few_in (HR.out.bel hb2)
  have hf80 := few_len l
  obtain ⟨fl, hfl⟩ : ∃ fl, fewX l = fl := ⟨_, rfl⟩
  rw [hfl] at ho3 hcm hf80 ⊢
  have HC3 : Hid (CW w Φ2 A3 c3 fl w3) := Lib.hid ⟨OwC.fresh (ho3.more hb2.size) HN2.out (fun g hg => (ho3.lt hg).1), fun x hx => ((fun (k : CbIn w w.heap.size x) => k.below (hb2.trans (hb3.mono hb2.size))) (by
    have hcm' := few_in HR.out
    rw [hfl] at hcm'
    exact hcm' x hx)), HN2.out.below hb3, hb2.trans (hb3.mono hb2.size)⟩
  have HX3 : Hid (DX Φ2 w.heap.size w3 q ⟨4, 0, [], none⟩) := Lib.hid (HX2.out.below hb3)
  obtain ⟨m, hm⟩ : ∃ m, fl.length = m := ⟨_, rfl⟩
  rw [hm] at hf80 ⊢
  have HM := Lib.hid hm
  clear F HX2 HN2 HR ho3 hb3 hcm hfl hm hb2
  go_wp2_with fail
  go_loopw [29] (fun iv wr => ∃ (k : Nat) (Φ : Who) (a : Dq), k ≤ m ∧ iv = .int .i64 k ∧ DX Φ w.heap.size wr q a ∧ CW w Φ A3 c3 fl wr) (fun iv _ => m - (intOf iv).toNat)
  case atStart => exact ⟨0, Φ2, _, Nat.zero_le _, rfl, HX3.out, HC3.out⟩
  case round =>
    obtain ⟨k, Φ, a, hk, rfl, hX, hC⟩ := hrel
    by_cases hlt : k < m
    · have hlt' : (k : Int) < m := by omega
      obtain ⟨x, hxk⟩ : ∃ x, fl[k]? = some x := ⟨_, List.getElem?_eq_getElem (by rw [HM.out]; exact hlt)⟩
      obtain ⟨g0, o0, rfl, hr⟩ := hC.cell hxk
      have q0 := hr 0 _ rfl
      have q1 := hr 1 _ rfl
      have q2 := hr 2 _ rfl
      have q3 := hr 3 _ rfl
      have q4 := hr 4 _ rfl
      have q5 := hr 5 _ rfl
      have q6 := hr 6 _ rfl
      have q7 := hr 7 _ rfl
      rw [Nat.add_zero] at q0
      have hxm := List.mem_of_getElem? hxk
      have hb0 := bl1 wr (.cells x.1.cs.toArray 33)
      have HX4 := Lib.hid (hX.below hb0)
      have HC4 := Lib.hid (hC.below hb0)
      have LS := Lib.hid (lists_any HX4.out)
      have HXM := Lib.hid hxm
      have hbx := (Blk.new wr 33 x.1.cs.toArray).cell
      have BXN := Lib.hid (Blk.new wr 33 x.1.cs.toArray)
      clear hr hX hC hxk hxm hb0
      go_wp2_with fail
      refine LS.out.mono ?_
      rintro e w5 ⟨A5, c5, cl, rfl, hab, hO, hb5⟩
      have D := Lib.hid (do_cw (HX4.out.below hb5) (HC4.out.below hb5) HXM.out)
      have hbx := (BXN.out.below hb5).cell
      obtain ⟨⟨a1, rb, re⟩, hres⟩ : ∃ r, doX a x.1 = r := ⟨_, rfl⟩
      have herr := @do_err a x.1
      have hst := @do_stay a x.1
      rw [hres] at D herr hst
      dsimp only at herr hst
      have HER := Lib.hid herr
      have HST := Lib.hid hst
      have HAB := Lib.hid hab
      have HO := Lib.hid hO
      have HB5 := Lib.hid hb5
      have hlen : cl.length = a.ls.length := by rw [← abs_len, hab, listsX_len]
      have hl4 : cl.length ≤ 4 := by rw [hlen]; exact HX4.out.1.n4
      obtain ⟨nl, hnl⟩ : ∃ nl, cl.length = nl := ⟨_, rfl⟩
      have HNL := Lib.hid hnl
      rw [hnl] at hl4 ⊢
      clear LS hres herr hst hab hO hb5 hlen hnl q0 q1 q2 q3 q4 q5 q6 q7
      go_wp2_with fail
      refine D.out.mono ?_
      rintro e w6 ⟨V, d, Φ6, rfl, -, hX6, hC6, he6⟩
      have HO6 := Lib.hid (HO.out.ext he6 (fun g hg hlt => HC4.out.nu g hg))
      have LS := Lib.hid (lists_any hX6)
      have HX6 := Lib.hid hX6
      have HC6 := Lib.hid hC6
      clear D hX6 hC6 he6 hbx BXN
      go_wp2_with fail
      refine LS.out.mono ?_
      rintro e w7 ⟨A7, c7, cm, rfl, hab7, hO7, hb7⟩
      have HR5 := Lib.hid (HO6.out.below hb7).rl
      have HR7 := Lib.hid hO7.rl
      have HAB7 := Lib.hid hab7
      have hlm : cm.length = a1.ls.length := by rw [← abs_len, hab7, listsX_len]
      have hlm4 : cm.length ≤ 4 := by rw [hlm]; exact HX6.out.1.n4
      have FIN : Hid (∀ w', Below w7.heap.size w7 w' → ∃ (k' : Nat) (Φ : Who) (a : Dq), k' ≤ m ∧ Value.int .i64 ((k : Int) + 1) = .int .i64 k' ∧ DX Φ w.heap.size w' q a ∧ CW w Φ (some ⟨g0, o0, none⟩) c3 fl w') := Lib.hid fun w' hb => by
        have hbb := hb7.trans (hb.mono hb7.size)
        exact ⟨k + 1, Φ6, a1, by omega, by simp, HX6.out.below hbb, HC6.out.below hbb⟩
      have LLA : Hid (LL (abs cl)) := Lib.hid (by
        rw [HAB.out]
        have h := HX4.out.1
        have key : ∀ x ∈ listsX a.ls, ∃ y ∈ a.ls, x.tabs = y.tabs := fun x hx => by
          obtain ⟨i, hi⟩ := List.mem_iff_getElem?.1 hx
          unfold listsX at hi
          rw [lsts_get] at hi
          cases hz : a.ls[i]? with
          | none => rw [hz] at hi; cases hi
          | some z =>
            rw [hz] at hi
            simp only [Option.map_some, Option.some.injEq] at hi
            exact ⟨z, List.mem_of_getElem? hz, by rw [← hi]⟩
        have hll := h.ll
        exact ⟨by rw [listsX_len]; exact hll.n, fun x hx => by obtain ⟨y, hy, e⟩ := key x hx; rw [e]; exact hll.t y hy, fun x hx => by obtain ⟨y, hy, e⟩ := key x hx; rw [e]; exact hll.e y hy⟩)
      have SM : Hid (re ≠ 0 → Calls Try.prog 14 #[.slice A5 nl c5, .slice A7 cm.length c7] w7 fun e w' => e = .returned (.bool true) ∧ Below w7.heap.size w7 w') := Lib.hid fun h => by
        have hab : abs cl = abs cm := by rw [HAB.out, HAB7.out, HER.out h]
        have hlc : cm.length = nl := by rw [← abs_len, ← hab, abs_len, HNL.out]
        rw [hlc]
        exact same_any (n := nl) HR5.out HR7.out hab HNL.out LLA.out
      have ST : Hid (∀ (i : Nat) (x : Lc), cl[i]? = some x → x.on = true → ∃ y, cm[i]? = some y ∧ ({ y with on := x.on, ch := x.ch } : Lc).ab = x.ab) := Lib.hid fun i x hx ho => by
        obtain ⟨y, hy, e⟩ := lists_stay (l := a.ls) (l' := a1.ls) (fun h => HST.out h) (i := i) (x := x.ab) (by rw [← HAB.out]; exact abs_get hx) ho
        rw [← HAB7.out] at hy
        unfold abs at hy
        rw [List.getElem?_map] at hy
        cases hz : cm[i]? with
        | none => rw [hz] at hy; cases hy
        | some z =>
          rw [hz] at hy
          simp only [Option.map_some, Option.some.injEq] at hy
          refine ⟨z, rfl, ?_⟩
          rw [← hy] at e
          exact e
      obtain ⟨nm, hnm⟩ : ∃ nm, cm.length = nm := ⟨_, rfl⟩
      have HNM := Lib.hid hnm
      rw [hnm] at SM hlm4 ⊢
      have hb8 := Below.refl w7.heap.size w7
      clear LS HX4 HC4 HX6 HC6 HAB HO HB5 HO6 HER HST hab7 hO7 hb7 hlm hnm HXM
      have hre : re = 0 ∨ re ≠ 0 := by omega
      rcases hre with rfl | hre
      case' inr =>
        have S1 := Lib.hid (SM.out hre)
        have hred : (re != 0) = true := by simpa using hre
        clear hb8 hre SM
        go_wp2_with fail
        refine S1.out.mono ?_
        rintro e w8 ⟨rfl, hb8⟩
        clear S1
        go_wp2_with fail
      case' inl =>
        go_wp2_with fail
      all_goals
        refine wp_named fun W hW => ?_
        have HBW : Hid (Below w7.heap.size w7 W) := Lib.hid (by subst hW; exact hb8)
        clear hW hb8
        go_loopw [53] (fun iv wr => ∃ i : Nat, i ≤ nl ∧ iv = .int .i64 i ∧ Below w7.heap.size w7 wr) (fun iv _ => nl - (intOf iv).toNat)
        case atStart => exact ⟨0, Nat.zero_le _, rfl, HBW.out⟩
        case round =>
          obtain ⟨i, hi, rfl, hb⟩ := hrel
          by_cases hil : i < nl
          · have hil' : (i : Int) < nl := by omega
            obtain ⟨x, hx⟩ : ∃ x, cl[i]? = some x := ⟨_, List.getElem?_eq_getElem (by rw [HNL.out]; exact hil)⟩
            have hR := HR5.out.below hb
            obtain ⟨g, o, rfl⟩ := hR.row.some_ (ne_nil_of_get (lcells_at hx (j := 0) rfl))
            have rx := fun j u hu => hR.row.rule (lcells_at hx (j := j) (u := u) hu) wr (Below.refl _ _)
            have r0 := rx 0 _ rfl
            have r1 := rx 1 _ rfl
            have r2 := rx 2 _ rfl
            have r3 := rx 3 _ rfl
            have r4 := rx 4 _ rfl
            have r5 := rx 5 _ rfl
            have r6 := rx 6 _ rfl
            have r7 := rx 7 _ rfl
            rw [Nat.add_zero] at r0
            rw [← Nat.add_assoc] at r1 r2 r3 r4 r5 r6 r7
            have HXI := Lib.hid hx
            have HB := Lib.hid hb
            have hz := hb.size
            clear rx hR hx hb
            cases hon : x.on with
            | false =>
              rw [hon] at r6
              go_wp2_with fail
              go_roundw
              case rel => exact ⟨i + 1, by omega, by go_num, HB.out.trans ((bl1 wr _).mono hz)⟩
              case measure => simp [intOf]; omega
            | true =>
              obtain ⟨y, hy, hyx⟩ := ST.out i x HXI.out hon
              rw [hon] at r6
              have him : i < nm := by rw [← HNM.out]; exact (List.getElem?_eq_some_iff.1 hy).1
              have himI : (i : Int) < nm := by omega
              have himd : decide ((nm : Int) ≤ i) = false := decide_eq_false (by omega)
              have HYI := Lib.hid hy
              have HYX := Lib.hid hyx
              have HON := Lib.hid hon
              clear hy hyx hon him
              go_upto_region 16 with fail
              refine wp_named fun W1 hW1 => ?_
              obtain ⟨BX, hbW1⟩ := blk1 (c1 := #[.int .i64 x.first, .slice x.A x.tabs.length x.c, .bool x.stim, .int .u8 x.ev, .int .u8 x.pre, .int .u8 x.pri, .bool true, .bool x.ch]) hW1
              have hb1 := HB.out.trans (hbW1.mono hz)
              have hz1 := hb1.size
              have hR := HR7.out.below hb1
              obtain ⟨g7, o7, rfl⟩ := hR.row.some_ (ne_nil_of_get (lcells_at HYI.out (j := 0) rfl))
              have rx := fun j u hu => hR.row.rule (lcells_at HYI.out (j := j) (u := u) hu) W1 (Below.refl _ _)
              have s0 := rx 0 _ rfl
              have s1 := rx 1 _ rfl
              have s2 := rx 2 _ rfl
              have s3 := rx 3 _ rfl
              have s4 := rx 4 _ rfl
              have s5 := rx 5 _ rfl
              have s6 := rx 6 _ rfl
              have s7 := rx 7 _ rfl
              rw [Nat.add_zero] at s0
              rw [← Nat.add_assoc] at s1 s2 s3 s4 s5 s6 s7
              have bx := BX.cell
              obtain ⟨gx, hgx⟩ : ∃ gx, wr.heap.size = gx := ⟨_, rfl⟩
              rw [hgx] at BX bx ⊢
              have hgx7 : w7.heap.size ≤ gx := by omega
              clear hW1 hgx rx hR r0 r1 r2 r3 r4 r5 r6 r7
              go_upto_region 20 with fail
              refine wp_named fun W2 hW2 => ?_
              obtain ⟨BY, hbW2⟩ := blk1 (c1 := #[.int .i64 y.first, .slice y.A y.tabs.length y.c, .bool y.stim, .int .u8 y.ev, .int .u8 y.pre, .int .u8 y.pri, .bool y.on, .bool y.ch]) hW2
              have hgx1 := BX.lt
              have BX := BX.below hbW2
              have hb2 := hb1.trans (hbW2.mono hz1)
              obtain ⟨gy, hgy⟩ : ∃ gy, W1.heap.size = gy := ⟨_, rfl⟩
              rw [hgy] at BY ⊢
              have hgxy : gx ≠ gy := by omega
              have hgy7 : w7.heap.size ≤ gy := by omega
              have ST0 : Hid (Blk W2 gx 40 #[.int .i64 x.first, .slice x.A x.tabs.length x.c, .bool x.stim, .int .u8 x.ev, .int .u8 x.pre, .int .u8 x.pri, .bool true, .bool x.ch] ∧ Blk W2 gy 40 #[.int .i64 y.first, .slice y.A y.tabs.length y.c, .bool y.stim, .int .u8 y.ev, .int .u8 y.pre, .int .u8 y.pri, .bool y.on, .bool y.ch] ∧ Below w7.heap.size w7 W2) := Lib.hid ⟨BX, BY, hb2⟩
              clear hW2 hgy s0 s1 s2 s3 s4 s5 s6 s7 BX BY bx hbW1 hbW2 hb1 hb2
              have HRR : ∀ s w', (fun s w' => Blk w' gx 40 #[.int .i64 x.first, .slice x.A x.tabs.length x.c, .bool x.stim, .int .u8 x.ev, .int .u8 x.pre, .int .u8 x.pri, .bool true, .bool x.ch] ∧ Blk w' gy 40 #[.int .i64 y.first, .slice y.A y.tabs.length y.c, .bool y.stim, .int .u8 y.ev, .int .u8 y.pre, .int .u8 y.pri, .bool (if s = 0 then y.on else true), .bool (if s = 2 then x.ch else y.ch)] ∧ Below w7.heap.size w7 w') s w' → ∀ i, w'.cell? ⟨gx, i, none⟩ = (#[.int .i64 x.first, .slice x.A x.tabs.length x.c, .bool x.stim, .int .u8 x.ev, .int .u8 x.pre, .int .u8 x.pri, .bool true, .bool x.ch] : Array Value)[i]? := fun s w' h => h.1.cell
              refine wp_region_s [5, 7] (fun s w' => Blk w' gx 40 #[.int .i64 x.first, .slice x.A x.tabs.length x.c, .bool x.stim, .int .u8 x.ev, .int .u8 x.pre, .int .u8 x.pri, .bool true, .bool x.ch] ∧ Blk w' gy 40 #[.int .i64 y.first, .slice y.A y.tabs.length y.c, .bool y.stim, .int .u8 y.ev, .int .u8 y.pre, .int .u8 y.pri, .bool (if s = 0 then y.on else true), .bool (if s = 2 then x.ch else y.ch)] ∧ Below w7.heap.size w7 w') (by kernel_rfl) (by kernel_rfl) (⟨ST0.out.1.below (Below.refl _ _).drew, ST0.out.2.1.below (Below.refl _ _).drew, ST0.out.2.2.trans ((Below.refl _ _).drew)⟩) ?_
              first
                | (refine wpS_skip (by rfl) (by rfl) ?_; try simp only [Act.put, List.setIfInBounds_toArray, List.set_cons_zero, List.set_cons_succ, Nat.reduceAdd])
                | (refine wpS_val (v := ?_) HRR (by rfl) (by rfl) ?_ ?_; rotate_left; · (intro w' hS; go_simp; first | done | with_reducible rfl)
                   try simp only [Act.put, List.setIfInBounds_toArray, List.set_cons_zero, List.set_cons_succ, Nat.reduceAdd])
              first
                | (refine wpS_skip (by rfl) (by rfl) ?_; try simp only [Act.put, List.setIfInBounds_toArray, List.set_cons_zero, List.set_cons_succ, Nat.reduceAdd])
                | (refine wpS_val (v := ?_) HRR (by rfl) (by rfl) ?_ ?_; rotate_left; · (intro w' hS; go_simp; first | done | with_reducible rfl)
                   try simp only [Act.put, List.setIfInBounds_toArray, List.set_cons_zero, List.set_cons_succ, Nat.reduceAdd])
              first
                | (refine wpS_skip (by rfl) (by rfl) ?_; try simp only [Act.put, List.setIfInBounds_toArray, List.set_cons_zero, List.set_cons_succ, Nat.reduceAdd])
                | (refine wpS_val (v := ?_) HRR (by rfl) (by rfl) ?_ ?_; rotate_left; · (intro w' hS; go_simp; first | done | with_reducible rfl)
                   try simp only [Act.put, List.setIfInBounds_toArray, List.set_cons_zero, List.set_cons_succ, Nat.reduceAdd])
              first
                | (refine wpS_skip (by rfl) (by rfl) ?_; try simp only [Act.put, List.setIfInBounds_toArray, List.set_cons_zero, List.set_cons_succ, Nat.reduceAdd])
                | (refine wpS_val (v := ?_) HRR (by rfl) (by rfl) ?_ ?_; rotate_left; · (intro w' hS; go_simp; first | done | with_reducible rfl)
                   try simp only [Act.put, List.setIfInBounds_toArray, List.set_cons_zero, List.set_cons_succ, Nat.reduceAdd])
              first
                | (refine wpS_skip (by rfl) (by rfl) ?_; try simp only [Act.put, List.setIfInBounds_toArray, List.set_cons_zero, List.set_cons_succ, Nat.reduceAdd])
                | (refine wpS_val (v := ?_) HRR (by rfl) (by rfl) ?_ ?_; rotate_left; · (intro w' hS; go_simp; first | done | with_reducible rfl)
                   try simp only [Act.put, List.setIfInBounds_toArray, List.set_cons_zero, List.set_cons_succ, Nat.reduceAdd])
              refine wpS_step (v := undef) 0 (by kernel_rfl) rfl (by intro p hp; first | omega | (obtain rfl : p = 0 := (by omega); exact ⟨_, rfl, by kernel_rfl⟩)) (of_decide_eq_true (by kernel_rfl)) (fun w' hS => .inl ⟨by rfl, ?_⟩) (fun _ => rfl) ?_
              · have hS' : Blk w' gx 40 #[.int .i64 x.first, .slice x.A x.tabs.length x.c, .bool x.stim, .int .u8 x.ev, .int .u8 x.pre, .int .u8 x.pri, .bool true, .bool x.ch] ∧ Blk w' gy 40 #[.int .i64 y.first, .slice y.A y.tabs.length y.c, .bool y.stim, .int .u8 y.ev, .int .u8 y.pre, .int .u8 y.pri, .bool y.on, .bool y.ch] ∧ Below w7.heap.size w7 w' := hS
                refine wp_stB 4 (.tmp 73) (.tmp 70) rfl (.bool true) 6 rfl rfl hS'.2.1 (by simp [Value.cells]) (by kernel_rfl) (by simp [Value.cells, Value.oneCell']) (fun w'' h2 h3 => ⟨rfl, ?_⟩)
                exact ⟨hS'.1.grown h3 (by intro e; injection e with e; exact hgxy e), h2, bel_grown hS'.2.2 h3 hgy7⟩
              try simp only [Act.put, List.setIfInBounds_toArray, List.set_cons_zero, List.set_cons_succ, Nat.reduceAdd]
              first
                | (refine wpS_skip (by rfl) (by rfl) ?_; try simp only [Act.put, List.setIfInBounds_toArray, List.set_cons_zero, List.set_cons_succ, Nat.reduceAdd])
                | (refine wpS_val (v := ?_) HRR (by rfl) (by rfl) ?_ ?_; rotate_left; · (intro w' hS; go_simp; first | done | with_reducible rfl)
                   try simp only [Act.put, List.setIfInBounds_toArray, List.set_cons_zero, List.set_cons_succ, Nat.reduceAdd])
              refine wpS_step (v := undef) 1 (by kernel_rfl) rfl (by intro p hp; first | omega | (obtain rfl : p = 0 := (by omega); exact ⟨_, rfl, by kernel_rfl⟩)) (of_decide_eq_true (by kernel_rfl)) (fun w' hS => .inl ⟨by rfl, ?_⟩) (fun _ => rfl) ?_
              · have hS' : Blk w' gx 40 #[.int .i64 x.first, .slice x.A x.tabs.length x.c, .bool x.stim, .int .u8 x.ev, .int .u8 x.pre, .int .u8 x.pri, .bool true, .bool x.ch] ∧ Blk w' gy 40 #[.int .i64 y.first, .slice y.A y.tabs.length y.c, .bool y.stim, .int .u8 y.ev, .int .u8 y.pre, .int .u8 y.pri, .bool true, .bool y.ch] ∧ Below w7.heap.size w7 w' := hS
                refine wp_stB 4 (.tmp 74) (.tmp 72) rfl (.bool x.ch) 7 rfl rfl hS'.2.1 (by simp [Value.cells]) (by kernel_rfl) (by simp [Value.cells, Value.oneCell']) (fun w'' h2 h3 => ⟨rfl, ?_⟩)
                exact ⟨hS'.1.grown h3 (by intro e; injection e with e; exact hgxy e), h2, bel_grown hS'.2.2 h3 hgy7⟩
              try simp only [Act.put, List.setIfInBounds_toArray, List.set_cons_zero, List.set_cons_succ, Nat.reduceAdd]
              refine wpS_done (by kernel_rfl) (fun w9 hS => ?_)
              have hS9 : Blk w9 gx 40 #[.int .i64 x.first, .slice x.A x.tabs.length x.c, .bool x.stim, .int .u8 x.ev, .int .u8 x.pre, .int .u8 x.pri, .bool true, .bool x.ch] ∧ Blk w9 gy 40 #[.int .i64 y.first, .slice y.A y.tabs.length y.c, .bool y.stim, .int .u8 y.ev, .int .u8 y.pre, .int .u8 y.pri, .bool true, .bool x.ch] ∧ Below w7.heap.size w7 w9 := hS
              obtain ⟨BX9, BY9, hb9⟩ := hS9
              have bx9 := BX9.cell
              have by9 := (BY9.below (bl1 w9 (.cells #[.int .i64 x.first, .slice x.A x.tabs.length x.c, .bool x.stim, .int .u8 x.ev, .int .u8 x.pre, .int .u8 x.pri, .bool true, .bool x.ch] 40))).cell
              clear hS HRR ST0 BX9 BY9
              go_wp2_with fail
              refine calls_named fun W hW => ?_
              obtain ⟨B1, B2, hbW⟩ := blk2 (c1 := #[.int .i64 x.first, .slice x.A x.tabs.length x.c, .bool x.stim, .int .u8 x.ev, .int .u8 x.pre, .int .u8 x.pri, .bool true, .bool x.ch]) (c2 := #[.int .i64 y.first, .slice y.A y.tabs.length y.c, .bool y.stim, .int .u8 y.ev, .int .u8 y.pre, .int .u8 y.pri, .bool true, .bool x.ch]) hW
              have hb10 := hb9.trans (hbW.mono hb9.size)
              have hz9 := hb9.size
              have R5 := HR5.out.below hb10
              have R7 := HR7.out.below hb10
              have L1 : RL W (some ⟨w9.heap.size, 0, none⟩) [x] := R5.one (y := x) HXI.out ⟨rfl, rfl⟩ (by rw [show x.cs = [.int .i64 x.first, .slice x.A x.tabs.length x.c, .bool x.stim, .int .u8 x.ev, .int .u8 x.pre, .int .u8 x.pri, .bool true, .bool x.ch] by rw [← HON.out]]; exact B1)
              have L2 : RL W (some ⟨w9.heap.size + 1, 0, none⟩) [({ y with on := x.on, ch := x.ch } : Lc)] := R7.one (x := y) (y := { y with on := x.on, ch := x.ch }) (g := w9.heap.size + 1) (t := 40) HYI.out ⟨rfl, rfl⟩ (by rw [show ({ y with on := x.on, ch := x.ch } : Lc).cs = [.int .i64 y.first, .slice y.A y.tabs.length y.c, .bool y.stim, .int .u8 y.ev, .int .u8 y.pre, .int .u8 y.pri, .bool true, .bool x.ch] by rw [← HON.out]]; exact B2)
              have S2 := Lib.hid (same_any (c := 1) (c' := 1) L1 L2 (by show [x.ab] = [_]; rw [← HYX.out]) rfl (LLA.out.one (abs_get HXI.out)))
              have HB10 := Lib.hid hb10
              clear R5 R7 L1 L2 B1 B2 hW hbW hb10 hb9 bx9 by9
              refine S2.out.mono ?_
              rintro e w10 ⟨rfl, hbs⟩
              have HBS := Lib.hid (HB10.out.trans (hbs.mono HB10.out.size))
              clear S2 hbs
              go_wp2_with fail
              go_roundw
              case rel => exact ⟨i + 1, by omega, by go_num, HBS.out⟩
              case measure => simp [intOf]; omega
          · obtain rfl : i = nl := by omega
            have HB := Lib.hid hb
            clear hb
            go_wp2_with fail
            go_roundw
            case rel => exact FIN.out _ HB.out
            case measure => simp [intOf]; omega
    · obtain rfl : k = m := by omega
      have hbel := hC.bel
      clear hX hC
      go_wp2_with fail
      go_ret
      exact ⟨rfl, hbel⟩
end Go.Proofs.Ytjjifldgfihjgaa
