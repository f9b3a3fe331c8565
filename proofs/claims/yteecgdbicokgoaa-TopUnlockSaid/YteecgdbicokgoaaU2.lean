/- TopUnlock: the walk. -/
import Derived.Test.YteecgdbicokgoaaU1
import Derived.Test.YteecgdbicokgoaaW0
import Derived.Lib.MinMax
namespace Go.Proofs.Yteecgdbicokgoaa
open Go.RowKit Go.Shelf
set_option linter.unusedVariables false
set_option linter.unusedSimpArgs false
set_option maxRecDepth 100000
/-- A row of the law's own is written: the slave stays. -/
theorem TA.row5 {w w' : World} {L T N s m l : Nat} {x : St} (h : TA w L T N s m l x) {base : Nat} {A : Option Addr} {n c : Nat} {xs : List Value} (hO : Own w base 5 1 A n c xs) (hg : w.grownBy w' (blkOf A)) (hN : N ≤ base) (hT : T ≤ base) : TA w' L T N s m l x := by
  rcases hA : blkOf A with _ | g
  · rw [hA] at hg
    exact h.below ⟨hg.os, hg.tape, hg.output, hg.size, fun j hj => hg.block j hj (by simp)⟩
  · rw [hA] at hg
    obtain ⟨cs, hB⟩ := hO.row hA
    have hlt := (hO.lt hA).1
    have hsl := h.sl
    refine ⟨h.k, ?_, h.mem.kept hg.size (fun q _ h2 => hg.block q (Nat.lt_of_lt_of_le h2 h.mem.tz) (by intro e; injection e with e; omega)), h.lk.grown hg (fun i hi => ?_), h.ts, h.lt, Nat.le_trans h.n hg.size⟩
    · unfold SlB at hsl ⊢
      refine hsl.grown hg (fun e => ?_)
      injection e with e
      subst e
      have := blk_ty hsl hB
      cases this
    · injection hi with hi
      subst hi
      exact ⟨fun h => by omega, cs, hB⟩
set_option maxHeartbeats 8000000 in
theorem unlock_law (A : Option Addr) (n c : Nat) (xs : List Int) (right : Bool) (b pt : Int) (w : World) (hb0 : 0 ≤ b ∧ b < 256) (hp : 0 ≤ pt ∧ pt < 256)
    (hx : xs.length = n) (hn : n ≤ c) (hc : c ≤ maxLen) (hr : Rd w w.heap.size A (u8s xs)) (hA : A = none → n = 0 ∧ c = 0) (hu : by8 xs) :
    Calls Try.prog 3 #[.slice A n c, .bool right, .int .u8 b, .int .u8 pt] w fun e w' => e = .returned (.bool true) ∧ Below w.heap.size w w' := by
  unfold maxLen at hc
  obtain ⟨N, hN⟩ : ∃ N, min n 20 = N := ⟨_, rfl⟩
  have hNI : min (n : Int) 20 = (N : Int) := by omega
  have hNn : N ≤ n := by omega
  have hN20 : N ≤ 20 := by omega
  have hNc : (N : Int) ≤ c := by omega
  obtain ⟨x, hxs⟩ : ∃ x, xs.take N = x := ⟨_, rfl⟩
  have hxl : x.length = N := by rw [← hxs, List.length_take]; omega
  have hrx : Rd w w.heap.size A (u8s x) := by rw [← hxs]; exact hr.take' N
  have hux : by8 x := fun z hz => by rw [← hxs] at hz; exact hu z (List.mem_of_mem_take hz)
  have HX := Lib.hid (And.intro hxl (And.intro hrx hux))
  clear hr hu hx hN hxs hxl hrx hux
  have FR := Lib.hid (fresh_any 13 (by decide) (by decide) w)
  go_enter Try.func3, Try.ntmps3
  go_wp2_with fail
  refine FR.out.mono ?_
  rintro e w1 ⟨m, l, s, T, rfl, hTA, hLT, hb1⟩
  rw [X00_eq] at hTA
  obtain ⟨L, hL⟩ : ∃ L, w.heap.size + 1 = L := ⟨_, rfl⟩
  rw [hL] at hTA hLT
  have H1 := Lib.hid (And.intro hTA (And.intro hLT (And.intro hb1 hL)))
  clear hTA hLT hb1 FR hL
  by_cases hN0 : N = 0
  · subst hN0
    simp only [show ((0 : Nat) : Int) = 0 from rfl] at hNI hNc
    have WK := Lib.hid (works_any w1)
    go_wp2_with fail
    refine WK.out.mono ?_
    rintro e w2 ⟨rfl, hb2⟩
    go_wp2_with fail
    go_ret
    exact ⟨rfl, H1.out.2.2.1.trans (hb2.mono H1.out.2.2.1.size)⟩
  · have hN1 : 1 ≤ N := by omega
    have hN0b : ((N : Int) == 0) = false := beq_eq_false_iff_ne.2 (by omega)
    have HB1 := Lib.hid (ChR.refl L [146, 109, 221] L T w1)
    go_wp2_with fail
    go_loopw [13, 14] (fun told iv wr => ∃ (i t : Nat) (A' : Option Addr) (c' N' : Nat) (o : Option Sd), iv = .int .i64 i ∧ told = .slice A' t c' ∧ t = min N (6 * i) ∧ i ≤ 4 ∧ ((i = 0 ∧ t = 0 ∧ o = none ∧ A' = none ∧ c' = 0) ∨ (1 ≤ i ∧ o = sdx x t)) ∧ TA wr L T N' s m l (Xu o) ∧ T ≤ N' ∧ w1.heap.size ≤ N' ∧ Own wr N' 5 1 A' t c' (u8s (x.take t)) ∧ ChS L T w1 wr) (fun _ iv _ => 20 - (intOf iv).toNat)
    case atStart => exact ⟨0, 0, none, 0, w1.heap.size, none, rfl, rfl, by omega, by omega, .inl ⟨rfl, rfl, rfl, rfl, rfl⟩, H1.out.1, H1.out.1.tz, Nat.le_refl _, Own.nil _ _ _ _, HB1.out⟩
    case round =>
      obtain ⟨i, t, A', c', N', o, rfl, rfl, ht, hi4, ho, hTA, hTN, hN1s, hO, hC⟩ := hrel
      by_cases hlt : t < N
      · have hltI : (t : Int) < N := by omega
        have hi3 : i ≤ 3 := by omega
        have hi9 : (i : Int) < 9 := by omega
        obtain ⟨md, hmd⟩ : ∃ md : Int, min (i : Int) 1 = md := ⟨_, rfl⟩
        have hmd' : md = if i = 0 then 0 else 1 := by split <;> omega
        have hwm : IntKind.u8.wrap md = md := IntWalk.u8_in _ (by omega)
        have HR := Lib.hid (And.intro ht (And.intro ho (And.intro hTA (And.intro hTN (And.intro hO (And.intro hC hmd'))))))
        have HNs := Lib.hid hN1s
        clear ht ho hTA hTN hO hC hmd' hN1s
        have SR := Lib.hid (fun (hk : md = if i = 0 then 0 else 1) => seed_round (w := wr.alloc (.cells #[.int .u8 12, .int .u8 md, .int .u8 1, .int .u8 0, .int .u8 0, .int .u8 0, .int .u32 0, .slice none 0 0] 35)) (i := i) (dc := c) (by rw [HX.out.1]; exact hN1) (by rw [HX.out.1]; exact hN20) (by rw [HX.out.1]; exact hlt) HR.out.2.1 (HR.out.2.2.1.below (bl1 _ _)) HR.out.2.2.2.1 (HR.out.2.2.2.2.1.below (bl1 _ _)) HX.out.1
          (fun w2 hw2 => By.of_rd ((HX.out.2.1.below (H1.out.2.2.1.trans ((((HR.out.2.2.2.2.2.1.grow (bl1 _ _)).trans hw2).below (by have := H1.out.2.1; have := H1.out.1.tz; omega)).mono (by have := H1.out.2.2.2; omega)))).more (by have := H1.out.2.1; have := H1.out.2.2.2; omega)) (by have h1 := HR.out.2.2.1.tz; have h2 := hw2.size; have h3 := (bl1 wr (.cells #[.int .u8 12, .int .u8 md, .int .u8 1, .int .u8 0, .int .u8 0, .int .u8 0, .int .u32 0, .slice none 0 0] 35)).size; omega))
          HX.out.2.2 (base := wr.heap.size) HR.out.2.2.1.tz (A := some ⟨wr.heap.size, 0, none⟩) (c := 1) (by rw [← hk]; exact Own.made (e := 35) (size := 8) wr (Nat.le_refl _) #[.int .u8 12, .int .u8 md, .int .u8 1, .int .u8 0, .int .u8 0, .int .u8 0, .int .u32 0, .slice none 0 0] 1 1 (by decide) (by decide) rfl))
        go_wp2_with fail
        refine (SR.out HR.out.2.2.2.2.2.2).mono ?_
        rintro e w2 ⟨R, rc, B, bc, N2, rfl, hOR, hOB, hTN2, hNN2, hTA2, hO2, hC2⟩
        have HN2 := Lib.hid (Nat.le_trans HNs.out hNN2)
        clear hNN2 HNs
        rw [HX.out.1] at hOR hOB hTA2
        obtain ⟨q, hq⟩ : ∃ q, min 6 (N - t) = q := ⟨_, rfl⟩
        rw [hq] at hOR hOB hTA2
        obtain ⟨D, hD⟩ : ∃ D, N - t = D := ⟨_, rfl⟩
        rw [hD] at hOB
        have hDI : (N : Int) - t = D := by omega
        have hq1 : 1 ≤ q := by omega
        have hq6 : q ≤ 6 := by omega
        have hqD : t + q ≤ N := by omega
        obtain ⟨gR, oR, rfl⟩ := hOR.at_ (by omega)
        obtain ⟨gB, oB, rfl⟩ := hOB.at_ (by omega)
        have cR := hOR.cells 0 _ rfl
        have cB := hOB.cells 0 _ rfl
        simp only [Nat.add_zero] at cR cB
        have hbq := own_cap hOB
        obtain ⟨bd, rfl⟩ : ∃ bd, bc = bd + 1 := ⟨bc - 1, by omega⟩
        have hbd : q ≤ bd := by omega
        have hbd1 : 1 ≤ bd := by omega
        clear hbq
        have HW2 := Lib.hid (And.intro hOB (And.intro hTN2 (And.intro hTA2 (And.intro hO2 (And.intro hC2 (And.intro hq hD))))))
        clear hOB hOR hTN2 hTA2 hO2 hC2 hq hD SR
        have hq2 : decide ((1 : Int) + (q : Int) < 2) = false := decide_eq_false (by omega)
        have hlx : ((x.drop t).take 6).length = q := by have := HX.out.1; have := HW2.out.2.2.2.2.2.1; simp; omega
        have hql : (u8s ((x.drop t).take 6)).length = q * 1 := by simp only [u8s, List.length_map, hlx]; omega
        have WR : Rd w2 w2.heap.size (some ⟨gB, oB + 1, none⟩) (u8s ((x.drop t).take 6)) := fun _ => ⟨gB, oB + 1, rfl, (HW2.out.1.lt (g := gB) rfl).2, fun i u hu => by
          have := HW2.out.1.cells (1 + i) u (by rw [u8s, List.map_cons, Nat.add_comm 1 i, List.getElem?_cons_succ]; exact hu)
          rw [← Nat.add_assoc] at this
          exact this⟩
        have hqm : t + q ≤ maxLen := by unfold maxLen; omega
        have hqb : (t + q) * 1 ≤ 140737488355328 := by omega
        have HWR := Lib.hid (And.intro hql (And.intro WR (And.intro hqm hqb)))
        have hz2 : N2 ≤ w2.heap.size := HW2.out.2.2.1.n
        clear hql WR hqm hqb hlx
        go_wp2_with (at_builtin; refine wpList_app _ rfl (.tmp 96) (.tmp 100) 22 rfl N2 5 (.int .u8 0) 1 1 Try.underlying22 info5 rfl (by decide) A' t c' (u8s (x.take t)) rfl HW2.out.2.2.2.1 _ (some ⟨gB, oB + 1, none⟩) q bd (u8s ((x.drop t).take 6)) rfl HWR.out.1 HWR.out.2.1 (u8s_one _) HWR.out.2.2.1 HWR.out.2.2.2 hz2 ?_; intro A6 c6 w6 ho6 hg6 hbk6)
        have hx6 : u8s (x.take t) ++ u8s ((x.drop t).take 6) = u8s (x.take (t + q)) := by
          have h1 : (x.drop t).take 6 = (x.drop t).take q := by
            have := HX.out.1
            have hqe := HW2.out.2.2.2.2.2.1
            rcases (by omega : q = 6 ∨ (q < 6 ∧ t + q = N)) with h | ⟨h, h'⟩
            · rw [h]
            · rw [List.take_of_length_le (by simp; omega), List.take_of_length_le (by simp; omega)]
          rw [h1, ← List.map_append, ← List.take_add]
        rw [hx6] at ho6
        have hTA6 := HW2.out.2.2.1.row5 HW2.out.2.2.2.1 hg6 (Nat.le_refl _) HW2.out.2.1
        have hC6 : ChS L T w1 w6 := by
          refine Chg.trans ((HR.out.2.2.2.2.2.1.grow (bl1 _ _)).trans HW2.out.2.2.2.2.1) (Chg.of_grown hg6) (fun i hi h => ?_)
          have h1 := (HW2.out.2.2.2.1.lt h.symm).1
          have h2 := HN2.out
          omega
        have hx2 : sdx x (t + q) = sdx x (t + q) := rfl
        have hit : t + q = min N (6 * (i + 1)) := by have h1 := HR.out.1; have h2 := HW2.out.2.2.2.2.2.1; omega
        have FIN := Lib.hid (And.intro hit (And.intro hTA6 (And.intro HW2.out.2.1 (And.intro ho6 hC6))))
        clear hit hTA6 ho6 hC6 hg6 hbk6 hx6
        have hiI : (i : Int) < 4 := by omega
        have hi0 : (0 : Int) ≤ i := by omega
        go_roundw
        case rel => exact ⟨i + 1, t + q, A6, c6, N2, _, rfl, rfl, FIN.out.1, by omega, .inr ⟨by omega, rfl⟩, FIN.out.2.1, FIN.out.2.2.1, HN2.out, FIN.out.2.2.2.1, FIN.out.2.2.2.2⟩
        case measure =>
          simp only [intOf]
          omega
      · obtain rfl : t = N := by omega
        have hsx : o = sdx x t := by
          rcases ho with ⟨_, h0, _⟩ | ⟨_, h⟩
          · omega
          · exact h
        subst hsx
        rw [List.take_of_length_le (by rw [HX.out.1]; exact Nat.le_refl _)] at hO
        have KY := Lib.hid (key_any A' t c' x 1 wr HX.out.1 hO.rd (by omega) (by decide) (by decide))
        have HR := Lib.hid (And.intro (hTA.more hTA.n (Nat.le_refl _)) (And.intro (Nat.le_trans hTN hTA.n) (And.intro hO hC)))
        have hTN0 := hTN
        clear ht ho hTA hTN hN1s hO hC hlt HB1
        go_wp2_with fail
        refine KY.out.mono ?_
        rintro e w2 ⟨A2, c2, rfl, hK, hb2⟩
        obtain ⟨gK, oK, rfl⟩ := hK.at_ (by omega)
        have hkl : (keyL x 1).length = t := by rw [keyL_len, HX.out.1]
        have hkb := keyL_by x 1 HX.out.2.2
        obtain ⟨k0, hk0⟩ : ∃ k0, (keyL x 1)[0]? = some k0 := ⟨_, List.getElem?_eq_getElem (by rw [hkl]; omega)⟩
        have hk0b := hkb k0 (List.mem_of_getElem? hk0)
        obtain ⟨k1, hk1⟩ : ∃ k1, IntKind.u8.wrap (k0 + 1) = k1 := ⟨_, rfl⟩
        have hk1b : k1 ≠ k0 ∧ 0 ≤ k1 ∧ k1 < 256 := by rw [IntKind.wrap_u8] at hk1; omega
        have cK : w2.cell? ⟨gK, oK, none⟩ = some (.int .u8 k0) := by have := hK.cells 0 (.int .u8 k0) (by rw [List.getElem?_map, hk0]; rfl); rw [Nat.add_zero] at this; exact this
        have fK := hK.frozen
        have hset := hK.set_ 0 (by omega) (.int .u8 k1)
        rw [← List.map_set, Nat.add_zero] at hset
        have hgr : w2.grownBy (w2.setCell ⟨gK, oK, none⟩ (.int .u8 k1)) (some gK) := grown_setCells gK [.int .u8 k1] oK w2
        have hTA2 := HR.out.1.below hb2
        have hTA3 := hTA2.row5 hK hgr (Nat.le_refl _) HR.out.1.tz
        have hO2 := HR.out.2.2.1.below hb2
        have hO3 := hO2.grown hgr (.inr (fun e => by have h1 := (HR.out.2.2.1.lt e).2; have h2 := (hK.lt (g := gK) rfl).1; omega))
        have hC2 := HR.out.2.2.2.grow hb2
        have hC3 : ChS L T w1 (w2.setCell ⟨gK, oK, none⟩ (.int .u8 k1)) := Chg.trans hC2 (Chg.of_grown hgr) (fun i hi h => by
          injection h with h
          have h1 := (hK.lt (g := gK) rfl).1
          have h2 := HR.out.2.2.2.size
          omega)
        have hne : (keyL x 1).set 0 k1 ≠ keyL x 1 := fun e => by
          have := congrArg (fun l => l[0]?) e
          rw [List.getElem?_set_self (by rw [hkl]; omega), hk0] at this
          injection this with this
          exact hk1b.1 this
        have hsb : by8 ((keyL x 1).set 0 k1) := fun y hy => by
          rcases List.mem_or_eq_of_mem_set hy with hy | rfl
          · exact hkb y hy
          · exact hk1b.2
        have HKf := Lib.hid (And.intro hK (And.intro hTA2 (And.intro hO2 (And.intro hC2 (And.intro hkl hkb)))))
        have HKt := Lib.hid (And.intro hset (And.intro hTA3 (And.intro hO3 (And.intro hC3 (And.intro hne hsb)))))
        have hTN' := hTN0
        clear hK hb2 KY hset hTA2 hTA3 hO2 hO3 hC2 hC3 hkl hkb hk0 hk0b hk1b hne hsb hgr HR
        go_upto_if 110 with fail
        go_cut [18] (fun v wx => v = .slice (some ⟨gK, oK, none⟩) t c2 ∧ ∃ key, key.length = t ∧ by8 key ∧ (right = true → key = keyL x 1) ∧ (right = false → key ≠ keyL x 1) ∧ Own wx wr.heap.size 5 1 (some ⟨gK, oK, none⟩) t c2 (u8s key) ∧ TA wx L T wr.heap.size s m l (Xu (sdx x t)) ∧ Own wx N' 5 1 A' t c' (u8s x) ∧ ChS L T w1 wx)
        case first =>
          cases right
          · go_wp2_with fail
            go_meet
            case rel => exact ⟨rfl, _, by rw [List.length_set]; exact HKf.out.2.2.2.2.1, HKt.out.2.2.2.2.2, (fun h => by cases h), fun _ => HKt.out.2.2.2.2.1, HKt.out.1, HKt.out.2.1, HKt.out.2.2.1, HKt.out.2.2.2.1⟩
          · go_wp2_with fail
            go_meet
            case rel => exact ⟨rfl, _, HKf.out.2.2.2.2.1, HKf.out.2.2.2.2.2, fun _ => rfl, (fun h => by cases h), HKf.out.1, HKf.out.2.1, HKf.out.2.2.1, HKf.out.2.2.2.1⟩
        case rest =>
          obtain ⟨rfl, key, hkl, hku, hkr, hkw, hK, hTA, hO, hC⟩ := hcut
          clear HKf HKt cK fK
          obtain ⟨pm, hpm⟩ : ∃ pm : Nat, pt % 64 = (pm : Int) := ⟨(pt % 64).toNat, by omega⟩
          have hpm' : Int.tmod pt 64 = (pm : Int) := by rw [Int.tmod_eq_emod_of_nonneg hp.1]; exact hpm
          have hp64 : pm < 64 := by omega
          have hpI : (pm : Int) < 64 := by omega
          obtain ⟨bn, rfl⟩ : ∃ bn : Nat, b = (bn : Int) := ⟨b.toNat, by omega⟩
          have hbn : bn < 256 := by omega
          have OP := Lib.hid (open_ok (w := wc) hkl (by omega) hN20 (own_cap hK).1 hK.rd)
          have HC := Lib.hid (And.intro hkl (And.intro hku (And.intro hkr (And.intro hkw (And.intro hTA (And.intro hO hC))))))
          clear hkl hku hkr hkw hK hTA hO hC
          go_wp2_with fail
          refine OP.out.mono ?_
          rintro e w3 ⟨A3, c3, m3, rfl, ⟨cl, rfl, hO3, hK3, hm3⟩, hb3⟩
          have SW := Lib.hid (swrite_ok (w := w3.alloc (.cells #[.int .u8 bn] 5)) (pt := pm) (area := 0) (by omega) (b := [(bn : Int)]) (n := 1) (c := 1) rfl (Nat.le_refl _) (Blk.rd (cs := [.int .u8 bn]) (Blk.new w3 5 #[.int .u8 bn])) (by unfold fitsN; exact decide_eq_true (by omega)))
          have H3 := Lib.hid (And.intro hO3 (And.intro hK3 (And.intro hm3 hb3)))
          clear hO3 hK3 hm3 hb3 OP
          go_wp2_with fail
          refine SW.out.mono ?_
          rintro e w4 ⟨A4, c4, cl4, rfl, hO4, hK4, hm4, hb4⟩
          have hb34 : Below w3.heap.size w3 w4 := (bl1 w3 (.cells #[.int .u8 bn] 5)).trans (hb4.mono (bl1 w3 (.cells #[.int .u8 bn] 5)).size)
          have hbc4 : Below wc.heap.size wc w4 := H3.out.2.2.2.trans (hb34.mono H3.out.2.2.2.size)
          have hTA4 := HC.out.2.2.2.2.1.below hbc4
          have hx1 : 1 ≤ x.length := by rw [HX.out.1]; exact hN1
          have hx2 : x.length ≤ 20 := by rw [HX.out.1]; exact hN20
          have hTc : T ≤ wc.heap.size := HC.out.2.2.2.2.1.tz
          have OK4 := H3.out.1.below hb34
          have KK4 : ∀ y ∈ cl, KbAt w4 wc.heap.size 13 y := fun y hy => ⟨(H3.out.2.1 y hy).e, (H3.out.2.1 y hy).l, (H3.out.2.1 y hy).o.below hb34⟩
          have h34 : wc.heap.size ≤ (w3.alloc (.cells #[.int .u8 bn] 5)).heap.size := Nat.le_trans H3.out.2.2.2.size (bl1 w3 (.cells #[.int .u8 bn] 5)).size
          have hxt : Xu (sdx x t) = Xu (sdx x x.length) := by rw [HX.out.1]
          rw [hxt] at hTA4
          have hkx : key.length = x.length := by rw [HC.out.1, HX.out.1]
          have HP4 := Lib.hid (And.intro hO4 (And.intro hK4 (And.intro hm4 (And.intro hTc h34))))
          have HB4 := Lib.hid hbc4
          cases right
          · have OD := Lib.hid (open_not hx1 hx2 hkx HC.out.2.1 hTc OK4 KK4 H3.out.2.2.1 hTA4 (HC.out.2.2.2.1 rfl))
            clear OK4 KK4 hTA4 hO4 hK4 hm4 hb4 hb34 hbc4 hTc h34 hkx hx1 hx2 hxt SW
            go_wp2_with fail
            refine OD.out.mono ?_
            rintro e w5 ⟨rfl, hTA5, hC5⟩
            have PD := Lib.hid (put_not (Nat.le_trans HP4.out.2.2.2.1 HP4.out.2.2.2.2) hp64 hbn (HP4.out.1.chR' hC5 (by decide) (Nat.le_trans HP4.out.2.2.2.1 HP4.out.2.2.2.2)) (fun y hy => ⟨(HP4.out.2.1 y hy).e, (HP4.out.2.1 y hy).l, (HP4.out.2.1 y hy).o.chR' hC5 (by decide) (Nat.le_trans HP4.out.2.2.2.1 HP4.out.2.2.2.2)⟩) HP4.out.2.2.1 hTA5)
            have HC5 := Lib.hid hC5
            clear hTA5 hC5 OD
            go_wp2_with fail
            refine PD.out.mono ?_
            rintro e w6 ⟨y6, rfl, hTA6, hM6, ha6, hC6⟩
            have RD := Lib.hid (read_yes hTA6.mem (who := 1) (.inl rfl) (area := 0) (pt := pm) (n := 1) (l := [0]) (by rw [hM6]; exact read_zero hp64) (by decide))
            have HC6 := Lib.hid (And.intro hTA6 (And.intro ha6 (((HC.out.2.2.2.2.2.2.grow HB4.out).trans HC5.out).trans hC6)))
            clear hTA6 hM6 ha6 hC6 PD
            go_wp2_with fail
            refine RD.out.mono ?_
            rintro e w7 ⟨A7, c7, rfl, -, hO7, hb7⟩
            obtain ⟨g7, o7, rfl⟩ := hO7.at_ (by decide)
            have WK := Lib.hid (works_any w7)
            have HH7 := Lib.hid (And.intro hO7 hb7)
            clear hO7 hb7 RD
            go_wp2_with fail
            refine WK.out.mono ?_
            rintro e w8 ⟨rfl, hb8⟩
            have LKd := Lib.hid (locked_any ((HC6.out.1.below HH7.out.2).below hb8).lk)
            rw [HC6.out.2.1] at LKd
            have c8 := (HH7.out.1.below hb8).cells 0 _ rfl
            rw [Nat.add_zero] at c8
            have HB8 := Lib.hid hb8
            clear hb8 WK
            go_wp2_with fail
            refine LKd.out.mono ?_
            rintro e w9 ⟨rfl, rfl⟩
            go_wp2_with fail
            go_ret
            have hlb := (H1.out.2.2.1).trans (((HC6.out.2.2.grow HH7.out.2).grow HB8.out).below (by have := H1.out.2.1; have := H1.out.1.tz; omega) |>.mono (by have := H1.out.2.2.2; omega))
            exact ⟨rfl, hlb⟩
          · have OD := Lib.hid (open_yes hx1 hx2 hkx HC.out.2.1 hTc OK4 KK4 H3.out.2.2.1 hTA4 (HC.out.2.2.1 rfl))
            clear OK4 KK4 hTA4 hO4 hK4 hm4 hb4 hb34 hbc4 hTc h34 hkx hx1 hx2 hxt SW
            go_wp2_with fail
            refine OD.out.mono ?_
            rintro e w5 ⟨v5, rfl, hTA5, hC5⟩
            have PD := Lib.hid (put_yes (Nat.le_trans HP4.out.2.2.2.1 HP4.out.2.2.2.2) hp64 hbn (HP4.out.1.chR' hC5 (by decide) (Nat.le_trans HP4.out.2.2.2.1 HP4.out.2.2.2.2)) (fun y hy => ⟨(HP4.out.2.1 y hy).e, (HP4.out.2.1 y hy).l, (HP4.out.2.1 y hy).o.chR' hC5 (by decide) (Nat.le_trans HP4.out.2.2.2.1 HP4.out.2.2.2.2)⟩) HP4.out.2.2.1 hTA5)
            have HC5 := Lib.hid hC5
            clear hTA5 hC5 OD
            go_wp2_with fail
            refine PD.out.mono ?_
            rintro e w6 ⟨v6, y6, rfl, hTA6, hM6, ha6, hC6⟩
            have RD := Lib.hid (read_yes hTA6.mem (who := 1) (.inl rfl) (area := 0) (pt := pm) (n := 1) (l := [(bn : Int)]) (by rw [hM6]; exact read_one hp64 _) (by decide))
            have HC6 := Lib.hid (And.intro hTA6 (And.intro ha6 (And.intro hC6 (((HC.out.2.2.2.2.2.2.grow HB4.out).trans HC5.out).trans hC6))))
            clear hTA6 hM6 ha6 hC6 PD
            go_wp2_with fail
            refine RD.out.mono ?_
            rintro e w7 ⟨A7, c7, rfl, -, hO7, hb7⟩
            obtain ⟨g7, o7, rfl⟩ := hO7.at_ (by decide)
            have WK := Lib.hid (works_any w7)
            have HH7 := Lib.hid (And.intro hO7 hb7)
            clear hO7 hb7 RD
            go_wp2_with fail
            refine WK.out.mono ?_
            rintro e w8 ⟨rfl, hb8⟩
            have LKd := Lib.hid (locked_any ((HC6.out.1.below HH7.out.2).below hb8).lk)
            rw [HC6.out.2.1] at LKd
            have c8 := (HH7.out.1.below hb8).cells 0 _ rfl
            rw [Nat.add_zero] at c8
            have HB8 := Lib.hid hb8
            have hO8 := ((HC.out.2.2.2.2.2.1.below HB4.out).chR' (HC5.out.trans HC6.out.2.2.1) (by decide) hTN')
            have cv1 := ((hO8.below HH7.out.2).below hb8).conv (n := t) (P := Try.prog) (src := 22) (dst := 9) Try.underlying22 Try.underlying5 Try.underlying9 HX.out.1.symm w8 (Below.refl _ _)
            have hlw := (H1.out.2.2.1).trans (((HC6.out.2.2.2.grow HH7.out.2).grow hb8).below (by have := H1.out.2.1; have := H1.out.1.tz; omega) |>.mono (by have := H1.out.2.2.2; omega))
            have cv2 := (HX.out.2.1.below hlw).conv (n := t) (c := c) (P := Try.prog) (src := 22) (dst := 9) Try.underlying22 Try.underlying5 Try.underlying9 hlw.size HX.out.1.symm w8 (Below.refl _ _)
            have hcvb := bstr_beq x x HX.out.2.2 HX.out.2.2
            simp only [decide_true] at hcvb
            clear hb8 WK hO8
            go_wp2_with fail
            refine LKd.out.mono ?_
            rintro e w9 ⟨rfl, rfl⟩
            go_wp2_with fail
            go_ret
            exact ⟨rfl, hlw⟩
end Go.Proofs.Yteecgdbicokgoaa
