/- TopSamples: the walk. -/
import Derived.Test.YteecgdbicokgoaaTF
import Derived.Test.YteecgdbicokgoaaT9
namespace Go.Proofs.Yteecgdbicokgoaa
open Go.RowKit
set_option linter.unusedVariables false
set_option linter.unusedSimpArgs false
set_option maxRecDepth 100000
def L1 (w1 : World) (L T m q f g d : Nat) (cl : List Lc) (most : Nat) (wv : Value) (w : World) : Prop := ∃ M Aq cq pk ql lo Aw cw want, wv = .slice Aw want.length cw ∧ L1c w1 L T m q f g d cl most w M Aq cq pk ql lo Aw cw want
theorem bycells_at {l : List By8} {k : Nat} {t : By8} (h : l[k]? = some t) : (flatC By8.cs l)[k]? = some (.slice t.A t.n t.c) := by
  have := flatC_at By8.cs 1 l (fun _ _ => rfl) k t h 0 _ rfl
  simpa using this
theorem bycells_len (l : List By8) : (flatC By8.cs l).length = l.length := by have := flatC_len By8.cs 1 l (fun _ _ => rfl); simpa using this
structure LawIn (w : World) (A : Option Addr) (n : Nat) (cl0 : List Lc) (Ab : Option Addr) (nb cb : Nat) (bl : List By8) (Ae : Option Addr) (ne : Nat) (es : List Int) (most : Int) : Prop where
  l0 : cl0.length = n
  nm : n ≤ maxLen
  ri : RI w A cl0
  bq : bl.length = nb
  bc : nb ≤ cb
  bm : cb ≤ maxLen
  br : Rd w w.heap.size Ab (flatC By8.cs bl)
  ba : ∀ t ∈ bl, RBy w t
  bn : Ab = none → nb = 0 ∧ cb = 0
  el : es.length = ne
  em : ne ≤ maxLen
  er : Rd w w.heap.size Ae (u8s es)
  ey : ∀ y ∈ es, 0 ≤ y ∧ y < 256
  mo : 0 ≤ most ∧ most < 256
theorem flat_len (cl : List Lc) : ∀ (l : List Sa), (∀ s ∈ l, 0 < s.l.length) → l.length ≤ (l.flatMap (Sa.pk cl)).length
  | [], _ => by simp
  | s :: l, h => by
    have ih := flat_len cl l (fun s' hs' => h s' (by simp [hs']))
    have h1 := h s (by simp)
    have h2 : (Sa.pk cl s).length = s.l.length := by rw [Sa.pk, pkS_len, Sa.bs, List.length_map]
    rw [List.flatMap_cons, List.length_append, List.length_cons]
    omega
theorem L1c.wlen {w1 w : World} {L T m q f g d most cq cw : Nat} {cl : List Lc} {M : Mx} {Aq Aw : Option Addr} {pk : List It} {ql lo : List Bool} {want : List Sa} (h : L1c w1 L T m q f g d cl most w M Aq cq pk ql lo Aw cw want) : want.length ≤ most := by
  have h1 := flat_len cl want (fun s hs => (h.ok s hs).p)
  have h2 := congrArg List.length h.eq
  rw [List.length_map] at h2
  have := h.le
  omega
set_option maxHeartbeats 64000000 in
theorem samples_law {w : World} {A : Option Addr} {n c : Nat} {cl0 : List Lc} {Ab : Option Addr} {nb cb : Nat} {bl : List By8} {Ae : Option Addr} {ne ce : Nat} {es : List Int} {most : Int} (hI : LawIn w A n cl0 Ab nb cb bl Ae ne es most) :
    Calls Try.prog 5 #[.slice A n c, .slice Ab nb cb, .slice Ae ne ce, .int .u8 most] w fun e w' => e = .returned (.bool true) ∧ Below w.heap.size w w' := by
  have HI := Lib.hid hI
  have FW := Lib.hid (fewl_any (c := c) hI.l0 hI.nm hI.ri)
  obtain ⟨mq, hmq⟩ : ∃ mq : Nat, most % 64 = (mq : Int) := ⟨(most % 64).toNat, by have := hI.mo; omega⟩
  have hmt : Int.tmod most 64 = (mq : Int) := by rw [Int.tmod_eq_emod_of_nonneg hI.mo.1]; exact hmq
  have hm64 : mq < 64 := by omega
  obtain ⟨base, hbase⟩ : ∃ base, w.heap.size = base := ⟨_, rfl⟩
  have HBA := Lib.hid hbase
  have hcb : (nb : Int) ≤ cb := by have := hI.bc; omega
  clear hI hbase
  go_enter Try.func5, Try.ntmps5
  go_wp2_with fail
  refine FW.out.mono ?_
  rintro e w1 ⟨A1, c1, cl1, rfl, hFA, hb1⟩
  have HB1 := Lib.hid hb1
  have LD := Lib.hid (laid_any (c := c1) hFA hb1.size rfl)
  clear FW hFA hb1
  go_wp2_with fail
  refine LD.out.mono ?_
  rintro e w2 ⟨A2, c2, cl, rfl, hG, hb2⟩
  have HB2 := Lib.hid (HB1.out.trans hb2)
  have HG2 := Lib.hid hG
  have hz2 : w.heap.size ≤ w2.heap.size := HB2.out.size
  clear LD hG hb2 HB1
  obtain ⟨nl, hnl⟩ : ∃ nl, cl.length = nl := ⟨_, rfl⟩
  have HNL := Lib.hid hnl
  try rw [hnl]
  clear hnl
  have NM := Lib.hid (new0_any w2)
  go_wp2_with fail
  refine NM.out.mono ?_
  rintro e w3 ⟨m, rfl, hM, hb3⟩
  have HM3 := Lib.hid hM
  have HB3 := Lib.hid (HB2.out.trans (hb3.mono hz2))
  have HG3 := Lib.hid (HG2.out.below hb3)
  have HB23 := Lib.hid hb3
  have HZ3 := Lib.hid hb3.size
  clear NM hM hb3 HB2
  have QN := Lib.hid (qnew_any (n := (mq : Int) + 1) (by omega) (by omega) w3)
  go_wp2_with fail
  refine QN.out.mono ?_
  rintro e w4 ⟨rfl, hw4⟩
  obtain ⟨Q, hQ⟩ : ∃ Q, mq + 1 = Q := ⟨_, rfl⟩
  have hQ64 : 1 ≤ Q ∧ Q ≤ 64 := by omega
  rw [show (mq : Int) + 1 = (Q : Int) by omega] at hw4
  obtain ⟨T, hT⟩ : ∃ T, w3.heap.size = T := ⟨_, rfl⟩
  try rw [hT]
  have BQ : Blk w4 T 127 #[.int .i64 Q, .slice none 0 0, .bool false, .bool false, .bool false, .bool false] := by
    rw [hw4, ← hT]; exact Blk.new _ _ _
  have hb4 : Below w3.heap.size w3 w4 := by rw [hw4]; exact bl1 _ _
  have hz4 : w4.heap.size = T + 1 := by rw [hw4, World.size_alloc, hT]
  have HQ4 := Lib.hid (And.intro BQ (And.intro hb4 hz4))
  clear QN hw4 BQ hb4 hQ
  have FN := Lib.hid (fnew_any w4)
  go_wp2_with fail
  refine FN.out.mono ?_
  rintro e w5 ⟨rfl, hw5⟩
  rw [hz4]
  have BF : Blk w5 (T + 1) 130 #[.int .i64 0, .int .i64 0, .int .i64 0, .int .i64 0] := by rw [hw5, ← hz4]; exact Blk.new _ _ _
  have hb5 : Below w4.heap.size w4 w5 := by rw [hw5]; exact bl1 _ _
  have hz5 : w5.heap.size = T + 2 := by rw [hw5, World.size_alloc, hz4]
  have hb35 : Below T w3 w5 := by rw [← hT]; exact HQ4.out.2.1.trans (hb5.mono (by omega))
  have HF5 := Lib.hid (And.intro BF (And.intro (HQ4.out.1.below hb5) (And.intro hb35 hz5)))
  have HG5 := Lib.hid (HG3.out.below (by rw [hT]; exact hb35))
  have GN := Lib.hid (gnew_any (A := A2) (n := nl) (c := c2) HNL.out (by rw [← HNL.out]; exact HG5.out.n4) (by rw [← HNL.out]; exact HG5.out.m16) HG5.out.rl.row)
  clear FN hw5 BF hb5 hb35 hz4 HQ4 HG3
  go_wp2_with fail
  refine GN.out.mono ?_
  rintro e w6 ⟨g, rfl, hGA, hb6⟩
  obtain ⟨d, hd⟩ : ∃ d, w6.heap.size = d := ⟨_, rfl⟩
  have hgb : T + 2 ≤ g := by obtain ⟨_, _, _, h⟩ := hGA; have := h.gb; omega
  have hzd : T + 2 ≤ d := by have := hb6.size; omega
  have HA6 := Lib.hid (And.intro hGA (And.intro hb6 hd))
  have hzT : T + 2 = w5.heap.size := hz5.symm
  clear GN hGA hb6
  obtain ⟨K, hK, hKb, hmn⟩ : ∃ K : Nat, K ≤ 12 ∧ K ≤ nb ∧ min (nb : Int) 12 = (K : Int) := by
    rcases Nat.le_total nb 12 with h | h
    · exact ⟨nb, h, Nat.le_refl _, by omega⟩
    · exact ⟨12, Nat.le_refl _, h, by omega⟩
  have hKc : (K : Int) ≤ cb := by omega
  go_upto_region 10 with fail
  refine wp_named fun W hW => ?_
  have B7 : Blk W d 66 #[.bool false, .bool false, .bool false, .bool false] := by rw [hW, ← hd]; exact Blk.new _ _ _
  have hb7 : Below w6.heap.size w6 W := by rw [hW]; exact bl1 _ _
  try rw [hd]
  obtain ⟨L, hL⟩ : ∃ L, w2.heap.size = L := ⟨_, rfl⟩
  have hb37 : Below T w3 W := HF5.out.2.2.1.trans ((HA6.out.2.1.trans (hb7.mono HA6.out.2.1.size)).mono (by omega))
  have hb57 : Below w5.heap.size w5 W := HA6.out.2.1.trans (hb7.mono HA6.out.2.1.size)
  have HP : Hid (Pos w3 L T T (T + 1) g d Q) := Lib.hid ⟨by rw [← hL, ← hT]; exact HZ3.out, Nat.le_refl _, by omega, by omega, by omega, hQ64.2, by omega⟩
  have HS : Hid (L1 w3 L T m T (T + 1) g d cl Q (.slice none 0 0) W) := Lib.hid (by
    have hMAt := HM3.out
    rw [hL, hT] at hMAt
    refine ⟨⟨zeros 64, none⟩, none, 0, [], [false, false, false, false], [false, false, false, false], none, 0, [], rfl, hMAt.below (by rw [hT]; exact hb37), ⟨HF5.out.2.1.below hb57, Own.nil _ _ _ _, (fun t ht => by cases ht), rfl⟩, ⟨0, 0, 0, 0, HF5.out.1.below hb57⟩, ?_, B7, rfl, Own.nil _ _ _ _, (fun s hs => by cases hs), hb37.mono (by rw [← hL, ← hT]; exact HZ3.out), rfl, (fun s hs => by cases hs), fun k x _ _ => rfl, Nat.zero_le _⟩
    obtain ⟨m', Ar, cr, h⟩ := HA6.out.1.below hb7
    exact ⟨m', Ar, cr, h.b, by omega, by have := h.mb; omega, h.map, h.row.more (by omega), fun o ho => ⟨(h.os o ho).1.more (by omega), fun b hb => ((h.os o ho).2 b hb).more (by omega)⟩⟩)
  have HB7 : Hid (Below base w w3 ∧ base ≤ L ∧ L ≤ T) := Lib.hid ⟨by rw [← HBA.out]; exact HB3.out, by rw [← hL, ← HBA.out]; exact hz2, by rw [← hL, ← hT]; exact HZ3.out⟩
  have HAB : Hid (∀ g', blkOf A2 = some g' → g' < L) := Lib.hid fun g' hg' => by rw [← hL]; exact HG2.out.ab g' hg'
  have HLT : Hid (L ≤ T) := Lib.hid (by rw [← hL, ← hT]; exact HZ3.out)
  have HG : Hid (∀ w', Below L w3 w' → GL w' A2 cl) := Lib.hid fun w' hb => HG2.out.below (by rw [hL]; exact (HB23.out.mono (by omega)).trans hb)
  clear hW B7 hb7 hd hL hb37 hb57 HM3 HF5 HA6 HG5 HG2 HB3 HZ3 hzT hz5 hz2 hT hgb hzd hmq hmt hm64 hmn
  go_wp2_with fail
  go_loopw [16, 75] (fun wv iv wr => ∃ i : Nat, i ≤ K ∧ iv = .int .i64 i ∧ L1 w3 L T m T (T + 1) g d cl Q wv wr) (fun _ iv _ => K - (intOf iv).toNat)
  case atStart => exact ⟨0, Nat.zero_le _, rfl, HS.out⟩
  case round =>
    obtain ⟨i, hi, rfl, hL1⟩ := hrel
    clear HS
    obtain ⟨M, Aq, cq, pk, ql, lo, Aw, cw, want, rfl, hL⟩ := hL1
    have hbw : Below base w wr := HB7.out.1.trans (hL.bel.mono HB7.out.2.1)
    by_cases hlt : i < K
    · have hltI : (i : Int) < K := by omega
      obtain ⟨y, hy⟩ : ∃ y, bl[i]? = some y := ⟨_, List.getElem?_eq_getElem (by rw [HI.out.bq]; omega)⟩
      have hry := HI.out.ba y (List.mem_of_getElem? hy)
      have hbr := HI.out.br
      rw [HBA.out] at hbr
      obtain ⟨gb, ob, rfl, -, hcc⟩ := hbr.below hbw (by
        intro e
        have h1 := bycells_len bl
        rw [e, HI.out.bq] at h1
        simp at h1
        omega)
      have cy := hcc i _ (bycells_at hy)
      obtain ⟨yA, yc, yn, ybs⟩ := y
      simp only at cy
      obtain ⟨h1, h2, h3, h4, h5, h6⟩ := hry
      simp only at h1 h2 h3 h4 h5 h6
      obtain ⟨K2, hK2, hK2n, hmn2⟩ : ∃ K2 : Nat, K2 ≤ 64 ∧ K2 ≤ yn ∧ min (yn : Int) 64 = (K2 : Int) := by
        rcases Nat.le_total yn 64 with h | h
        · exact ⟨yn, h, Nat.le_refl _, by omega⟩
        · exact ⟨64, Nat.le_refl _, h, by omega⟩
      have hK2c : (K2 : Int) ≤ yc := by omega
      have hrb : Rd wr wr.heap.size yA (u8s (ybs.take K2)) := by
        rw [HBA.out] at h4
        have hz : base ≤ wr.heap.size := by have := hbw.size; have := HBA.out; omega
        exact ((h4.below hbw).more hz).take' K2
      have WR := Lib.hid (write_any hL.mem (who := 1) (.inl rfl) (area := 0) (by decide) (pt := 0) (by decide) (n := K2) (c := yc) (b := ybs.take K2) (by rw [List.length_take]; omega) (by omega) hrb (fun e => by have := h5 e; omega))
      have HL := Lib.hid hL
      clear hL hbw hy hbr hcc h1 h2 h3 h4 h5 h6 hrb
      go_wp2_with fail
      refine WR.out.mono ?_
      rintro e w4 ⟨rfl, hM4, hC4⟩
      have hL4 := HL.out.memW HP.out hM4 hC4 (HL.out.bel.trans (hC4.below (Nat.le_trans HP.out.lt HL.out.mem.tz)))
      obtain ⟨M4, hM4e⟩ : ∃ M4, (writeX M 1 0 0 (ybs.take K2)).1 = M4 := ⟨_, rfl⟩
      rw [hM4e] at hL4
      have HL4 := Lib.hid hL4
      clear WR hM4 hC4 hL4 hM4e HL cy hmn2 hK2c hK2 hK2n
      go_upto_if 90 with fail
      go_cut [20] (fun v wx => ∃ ev : Int, v = .int .u8 ev ∧ wx = w4)
      case first =>
        by_cases hie : i < ne
        · have hieI : (i : Int) < ne := by omega
          obtain ⟨z, hz⟩ : ∃ z, es[i]? = some z := ⟨_, List.getElem?_eq_getElem (by rw [HI.out.el]; exact hie)⟩
          have her := HI.out.er
          rw [HBA.out] at her
          have hbw4 : Below base w w4 := HB7.out.1.trans (HL4.out.bel.mono HB7.out.2.1)
          obtain ⟨ge, oe, rfl, -, hce⟩ := her.below hbw4 (by
            intro e
            have h1 : (u8s es).length = ne := by rw [List.length_map, HI.out.el]
            rw [e] at h1
            simp at h1
            omega)
          have cz := hce i (.int .u8 z) (by rw [List.getElem?_map, hz]; rfl)
          clear hz her hbw4 hce
          go_wp2_with fail
          go_meet
          case rel => exact ⟨_, rfl, rfl⟩
        · have hieI : ¬ (i : Int) < ne := by omega
          go_wp2_with fail
          go_meet
          case rel => exact ⟨_, rfl, rfl⟩
      case rest =>
        obtain ⟨ev, rfl, rfl⟩ := hcut
        have hGL := HG.out wc HL4.out.bel
        have EV := Lib.hid (event_any (c := c2) HL4.out.fi HNL.out (by rw [← HNL.out]; exact hGL.n4) hGL.rl.row (fun g' hg' e => by have := HAB.out g' hg'; have := HLT.out; omega) (fun g' hg' => by have := HAB.out g' hg'; have := HP.out.lt; have := HL4.out.mem.tz; omega) ev)
        clear hGL
        go_wp2_with fail
        refine EV.out.mono ?_
        rintro e w5 ⟨Ak, ck, ks, rfl, hOk, hks, hk4, hF5, hC5⟩
        have hL5 := Lib.hid (HL4.out.fired HP.out hF5 hC5)
        have HK := Lib.hid (And.intro (hOk.more (base' := T) (by have := HL4.out.mem.tz; omega)) hks)
        obtain ⟨nk, hnk⟩ : ∃ nk, ks.length = nk := ⟨_, rfl⟩
        rw [hnk] at HK hk4
        try rw [hnk]
        have HNK := Lib.hid hnk
        clear EV hOk hks hF5 hC5 hnk HL4
        go_wp2_with fail
        generalize wr = wo at *
        go_loopw [16, 101] (fun wv jv wr => ∃ j : Nat, j ≤ nk ∧ jv = .int .i64 j ∧ L1 w3 L T m T (T + 1) g d cl Q wv wr ∧ Own wr T 3 1 Ak nk ck (ints ks)) (fun _ jv _ => nk - (intOf jv).toNat)
        case atStart => exact ⟨0, Nat.zero_le _, rfl, ⟨_, _, _, _, _, _, _, _, _, rfl, hL5.out⟩, HK.out.1⟩
        case round =>
          obtain ⟨j, hj, rfl, hL1, hOk⟩ := hrel
          clear hL5
          obtain ⟨M, Aq, cq, pk, ql, lo, Aw, cw, want, rfl, hL⟩ := hL1
          generalize wr = w6 at *
          by_cases hjk : j < nk
          · have hjkI : (j : Int) < nk := by omega
            obtain ⟨k, hk⟩ : ∃ k, ks[j]? = some k := ⟨_, List.getElem?_eq_getElem (by rw [HNK.out]; exact hjk)⟩
            have hkn : k < nl := HK.out.2 k (List.mem_of_getElem? hk)
            obtain ⟨gk, ok, rfl⟩ := hOk.at_ (by omega)
            have ckj := hOk.cells j (.int .i64 k) (by rw [List.getElem?_map, hk]; rfl)
            have hGL := HG.out w6 hL.bel
            have hk4' : k < 4 := by have := hGL.n4; have := HNL.out; omega
            obtain ⟨x, hx⟩ : ∃ x, cl[k]? = some x := ⟨_, List.getElem?_eq_getElem (by rw [HNL.out]; exact hkn)⟩
            obtain ⟨gx, ox, rfl, -, hcx⟩ := hGL.rl.row (by
              intro e
              have h1 := lcells_len cl
              rw [e, HNL.out] at h1
              simp at h1
              omega)
            have x2 := hcx _ _ (lcells_at hx (j := 2) rfl)
            rw [← Nat.add_assoc] at x2
            have hk0 : ¬ (k : Int) < 0 := by omega
            have hkd0 : decide ((k : Int) < 0) = false := decide_eq_false (by omega)
            have hkl : ¬ (nl : Int) ≤ k := by omega
            have hkd : decide ((nl : Int) ≤ k) = false := decide_eq_false (by omega)
            have hk4I : ¬ (4 : Int) ≤ k := by omega
            have hkd4 : decide ((4 : Int) ≤ (k : Int)) = false := decide_eq_false (by omega)
            have hkI : (k : Int) < nl := by omega
            have hkI4 : (k : Int) < 4 := by omega
            have HL := Lib.hid hL
            have HOK := Lib.hid hOk
            have HXX := Lib.hid hx
            obtain ⟨xA, xc, tabs, first, stim, xev, pre, pri, on, ch⟩ := x
            simp only at x2
            clear hL hOk hk hGL hx hcx
            cases stim
            · obtain ⟨lk, hlk⟩ : ∃ lk, lo[k]? = some lk := ⟨_, List.getElem?_eq_getElem (by rw [HL.out.l4]; exact hk4')⟩
              have cl_k : w6.cell? ⟨d, k, none⟩ = some (.bool lk) := (HL.out.lb.cell k).trans (by simp [hlk])
              have HLK := Lib.hid hlk
              clear hlk
              go_upto_region 23 with fail
              refine wp_named fun W7 hW7 => ?_
              obtain ⟨BS, hb7⟩ := blk1 (c1 := #[.int .i64 k, .bool lk, .slice none 0 0]) hW7
              obtain ⟨gs, hgs⟩ : ∃ gs, w6.heap.size = gs := ⟨_, rfl⟩
              rw [hgs] at BS hb7
              try rw [hgs]
              have hz7 : W7.heap.size = gs + 1 := by rw [hW7, World.size_alloc, hgs]
              have HW7 := Lib.hid (And.intro BS (And.intro hb7 (And.intro hz7 hgs)))
              have hGL := HG.out W7 (HL.out.bel.trans (hb7.mono (by have := HL.out.mem.tz; have := HLT.out; omega)))
              obtain ⟨gx', ox', hge, -, hcx⟩ := hGL.rl.row (by
                intro e
                have h1 := lcells_len cl
                rw [e, HNL.out] at h1
                simp at h1
                omega)
              injection hge with hge
              injection hge with hg1 hg2
              subst hg1
              subst hg2
              have x1 := hcx _ _ (lcells_at HXX.out (j := 1) rfl)
              rw [← Nat.add_assoc] at x1
              obtain ⟨tn, htn⟩ : ∃ tn, tabs.length = tn := ⟨_, rfl⟩
              simp only at x1
              rw [htn] at x1
              have HTN := Lib.hid htn
              have htn16 : tn ≤ 16 := by
                have h1 := fT_succ HXX.out
                have h2 := fT_mono cl (show k + 1 ≤ cl.length by rw [HNL.out]; exact hkn)
                have h3 := hGL.m16
                simp only at h1
                omega
              clear hW7 BS hb7 hGL hcx htn cl_k x2 hz7
              go_wp2_with fail
              go_loopw [133] (fun av wr => ∃ (a : Nat) (A3 : Option Addr) (c3 : Nat) (bz : List Bz), a ≤ tn ∧ av = .int .i64 a ∧ Blk wr gs 73 #[.int .i64 k, .bool lk, .slice A3 a c3] ∧ bz.length = a ∧ Own wr (gs + 1) 22 1 A3 a c3 (bz.map Bz.v) ∧ (∀ b ∈ bz, BzAt wr (gs + 1) b) ∧ bz.map Bz.bs = (tabs.take a).map (fun t => tbB M t.es) ∧ Below gs w6 wr) (fun av _ => tn - (intOf av).toNat)
              case atStart => exact ⟨0, none, 0, [], Nat.zero_le _, rfl, HW7.out.1, rfl, Own.nil _ _ _ _, (fun b hb => by cases hb), rfl, HW7.out.2.1⟩
              case round =>
                obtain ⟨a, A3, c3, bz, ha, rfl, hBS, hbl, hO3, hbz, hbb, hbg⟩ := hrel
                generalize wr = w8 at *
                by_cases hat : a < tn
                · have hatI : (a : Int) < tn := by omega
                  have hbel8 : Below L w3 w8 := HL.out.bel.trans (hbg.mono (by have := HL.out.mem.tz; have := HLT.out; have := HW7.out.2.2.2; omega))
                  have hGL := HG.out w8 hbel8
                  obtain ⟨t, ht⟩ : ∃ t, tabs[a]? = some t := ⟨_, List.getElem?_eq_getElem (by rw [HTN.out]; exact hat)⟩
                  have htm := List.mem_of_getElem? ht
                  have hxm := List.mem_of_getElem? HXX.out
                  have hes7 := hGL.t7 _ hxm t htm
                  have hwf := hGL.wf _ hxm t htm
                  obtain ⟨gt, ot, hge, -, hct⟩ := hGL.rl.tab k _ HXX.out (by
                    intro h
                    have h1 := tcells_len tabs
                    simp only at h
                    rw [h, HTN.out] at h1
                    simp at h1
                    omega)
                  simp only at hge
                  subst hge
                  have ck := hct a _ (tcells_at ht)
                  have hen := hGL.rl.ent k _ a t HXX.out ht
                  obtain ⟨tA, tc, tes⟩ := t
                  simp only at ck hen hes7 hwf
                  obtain ⟨en, hene⟩ : ∃ en, tes.length = en := ⟨_, rfl⟩
                  rw [hene] at ck hes7
                  have hlt8 : gs + 1 ≤ w8.heap.size := hBS.lt
                  have HT8 := Lib.hid (And.intro ht (And.intro hen (And.intro hene (And.intro hwf (And.intro hBS (And.intro hbl (And.intro hO3 (And.intro hbz (And.intro hbb hbg)))))))))
                  clear hGL ht htm hxm hwf hct hen hene hBS hbl hO3 hbz hbb hbg hbel8
                  go_wp2_with fail
                  obtain ⟨gl, hgl⟩ : ∃ gl, w8.heap.size = gl := ⟨_, rfl⟩
                  have HGL8 := Lib.hid hgl
                  clear hgl
                  go_loopw [26, 139] (fun ov bv wr => ∃ (b q : Nat) (A4 : Option Addr) (c4 : Nat), b ≤ en ∧ bv = .int .i64 b ∧ ov = .slice A4 q c4 ∧ q = (tbB M (tes.take b)).length ∧ Own wr gl 5 1 A4 q c4 (u8s (tbB M (tes.take b))) ∧ Below gl w8 wr) (fun _ bv _ => en - (intOf bv).toNat)
                  case atStart => exact ⟨0, 0, none, 0, Nat.zero_le _, rfl, rfl, rfl, Own.nil _ _ _ _, Below.refl _ _⟩
                  case round =>
                    obtain ⟨b, q, A4, c4, hb, rfl, rfl, hq, hO4, hb8⟩ := hrel
                    generalize wr = w9 at *
                    by_cases hbe : b < en
                    · have hbeI : (b : Int) < en := by omega
                      obtain ⟨e, hej⟩ : ∃ e, tes[b]? = some e := ⟨_, List.getElem?_eq_getElem (by rw [HT8.out.2.2.1]; exact hbe)⟩
                      have hew := HT8.out.2.2.2.1 e (List.mem_of_getElem? hej)
                      obtain ⟨ge, oe, rfl, -, hce⟩ := HT8.out.2.1.below (by rw [HGL8.out]; exact hb8) (by
                        intro h
                        have h1 := ecells_len tes
                        rw [h, HT8.out.2.2.1] at h1
                        simp at h1
                        omega)
                      have e0 := hce _ _ (ecells_at hej (j := 0) rfl)
                      have e1 := hce _ _ (ecells_at hej (j := 1) rfl)
                      have e2 := hce _ _ (ecells_at hej (j := 2) rfl)
                      rw [← Nat.add_assoc] at e0 e1 e2
                      rw [Nat.add_zero] at e0
                      have hsucc := tbB_succ M tes hej
                      have hq2 : q ≤ 2000 := by
                        have h1 := tbB_le M (tes.take b) (fun e' he' => HT8.out.2.2.2.1 e' (List.mem_of_mem_take he'))
                        rw [List.length_take] at h1
                        omega
                      obtain ⟨es0, ar, pl0⟩ := e
                      obtain ⟨kz, rfl⟩ : ∃ kz : Nat, es0 = (kz : Int) := ⟨es0.toNat, by have := hew.s0; simp only at this; omega⟩
                      have hkz : kz < 256 := by have := hew.s1; simp only at this; omega
                      have hMem9 : MAt w9 L T m M := (HL.out.mem.below (by rw [HW7.out.2.2.2]; exact HT8.out.2.2.2.2.2.2.2.2.2.trans (hb8.mono (by have := HGL8.out; omega))))
                      have RE := Lib.hid (read_en (hMem9.below (bl1 w9 (.cells (⟨(kz : Int), ar, pl0⟩ : En).cs.toArray 76))) hew (k := kz) (Int.toNat_natCast kz))
                      have BZ := (Blk.new w9 76 (⟨(kz : Int), ar, pl0⟩ : En).cs.toArray).cell
                      have BZk := Lib.hid (Blk.new w9 76 (⟨(kz : Int), ar, pl0⟩ : En).cs.toArray)
                      have hbz9 := bl1 w9 (.cells (⟨(kz : Int), ar, pl0⟩ : En).cs.toArray 76)
                      have hz9 : gl ≤ w9.heap.size := by have h1 := hb8.size; have h2 := HGL8.out; omega
                      have HI9 := Lib.hid (And.intro hO4 (And.intro hb8 (And.intro hq (And.intro hsucc hbz9))))
                      have hbi : (b : Int) < 1000 := by omega
                      have mk8 := mkz8 kz hkz
                      clear hO4 hb8 hq hsucc hbz9 hce hMem9 hej hew
                      have hkw := i64_w (n := (kz : Int)) (by omega) (by omega)
                      go_wp2_with fail
                      clear hkw
                      refine RE.out.mono ?_
                      rintro x9 wa ⟨A5, c5, f5, n5, rfl, hba, hcase⟩
                      have hza : gl ≤ wa.heap.size := Nat.le_trans hz9 (Nat.le_trans HI9.out.2.2.2.2.size hba.size)
                      have hbba : Below gl w8 wa := HI9.out.2.1.trans ((HI9.out.2.2.2.2.trans (hba.mono HI9.out.2.2.2.2.size)).mono hz9)
                      have Oa := (HI9.out.1.below HI9.out.2.2.2.2).below hba
                      have cza := (BZk.out.below hba).cell
                      have HRa := Lib.hid (And.intro Oa hbba)
                      clear BZ hba RE e0 e1 e2 Oa hbba
                      have czk := cza
                      clear cza
                      rcases hcase with ⟨rfl, hn5, hO⟩ | ⟨rfl, hz⟩
                      · obtain rfl : kz = n5 := hn5.symm
                        have HO := Lib.hid hO
                        clear hO mk8
                        have HA := Lib.hid (And.intro HRa.out.1 (And.intro (show (u8s (enB M ⟨(kz : Int), ar, pl0⟩)).length = kz * 1 by rw [List.length_map, enB_len]; simp) (And.intro HO.out.rd (And.intro (show q + kz ≤ maxLen by unfold maxLen; omega) (And.intro (show (q + kz) * 1 ≤ 140737488355328 by omega) (And.intro hza HRa.out.2))))))
                        go_wp2_with (at_builtin; refine wpList_app _ rfl (.tmp 160) (.tmp 161) 22 rfl gl 5 (.int .u8 0) 1 1 Try.underlying22 info5 rfl (by decide) A4 q c4 _ rfl HA.out.1 _ A5 kz c5 _ rfl HA.out.2.1 HA.out.2.2.1 (u8s_one _) HA.out.2.2.2.1 HA.out.2.2.2.2.1 HA.out.2.2.2.2.2.1 ?_; intro A6 c6 wb hob hgb hbkb)
                        rw [← List.map_append, ← HI9.out.2.2.2.1] at hob
                        have hbb : Below gl w8 wb := HA.out.2.2.2.2.2.2.grown hgb HA.out.2.2.2.2.2.1 (fun r hr => (HA.out.1.lt hr).1)
                        have hqb : q + kz = (tbB M (tes.take (b + 1))).length := by rw [HI9.out.2.2.2.1, List.length_append, ← HI9.out.2.2.1, enB_len]; simp
                        have FIN := Lib.hid (And.intro hqb (And.intro hob hbb))
                        clear hqb hob hbb hgb hbkb HA HRa HI9 czk
                        go_roundw
                        case rel => exact ⟨b + 1, q + kz, A6, c6, hbe, by go_num, rfl, FIN.out.1, FIN.out.2.1, FIN.out.2.2⟩
                        case measure => simp [intOf]; omega
                      · have HZ := Lib.hid hz
                        clear hz
                        have hbm := bl1 wa (.cells (u8s (zeros kz)).toArray 5)
                        have cza := czk
                        have RM := Lib.hid (Blk.rd (cs := u8s (zeros kz)) (Blk.new wa 5 (u8s (zeros kz)).toArray))
                        have HA := Lib.hid (And.intro (HRa.out.1.below hbm) (And.intro (show (u8s (enB M ⟨(kz : Int), ar, pl0⟩)).length = kz * 1 by rw [List.length_map, enB_len]; simp) (And.intro (show Rd (wa.alloc (.cells (u8s (zeros kz)).toArray 5)) (wa.alloc (.cells (u8s (zeros kz)).toArray 5)).heap.size (some ⟨wa.heap.size, 0, none⟩) (u8s (enB M ⟨(kz : Int), ar, pl0⟩)) by rw [HZ.out]; exact RM.out) (And.intro (show q + kz ≤ maxLen by unfold maxLen; omega) (And.intro (show (q + kz) * 1 ≤ 140737488355328 by omega) (And.intro (show gl ≤ (wa.alloc (.cells (u8s (zeros kz)).toArray 5)).heap.size from Nat.le_trans hza hbm.size) (HRa.out.2.trans (hbm.mono hza))))))))
                        clear hbm
                        go_wp2_with (at_builtin; refine wpList_app _ rfl (.tmp 160) (.tmp 161) 22 rfl gl 5 (.int .u8 0) 1 1 Try.underlying22 info5 rfl (by decide) A4 q c4 _ rfl HA.out.1 _ (some ⟨wa.heap.size, 0, none⟩) kz kz _ rfl HA.out.2.1 HA.out.2.2.1 (u8s_one _) HA.out.2.2.2.1 HA.out.2.2.2.2.1 HA.out.2.2.2.2.2.1 ?_; intro A6 c6 wb hob hgb hbkb)
                        rw [← List.map_append, ← HI9.out.2.2.2.1] at hob
                        have hbb : Below gl w8 wb := HA.out.2.2.2.2.2.2.grown hgb HA.out.2.2.2.2.2.1 (fun r hr => (HA.out.1.lt hr).1)
                        have hqb : q + kz = (tbB M (tes.take (b + 1))).length := by rw [HI9.out.2.2.2.1, List.length_append, ← HI9.out.2.2.1, enB_len]; simp
                        have FIN := Lib.hid (And.intro hqb (And.intro hob hbb))
                        clear hqb hob hbb hgb hbkb HA HRa HI9 czk
                        go_roundw
                        case rel => exact ⟨b + 1, q + kz, A6, c6, hbe, by go_num, rfl, FIN.out.1, FIN.out.2.1, FIN.out.2.2⟩
                        case measure => simp [intOf]; omega
                    · obtain rfl : b = en := by omega
                      have htk : tes.take b = tes := List.take_of_length_le (by rw [HT8.out.2.2.1]; exact Nat.le_refl _)
                      rw [htk] at hq hO4
                      have hb8' : Below w8.heap.size w8 w9 := by rw [HGL8.out]; exact hb8
                      have hz9 : gl ≤ w9.heap.size := by have h1 := hb8.size; have h2 := HGL8.out; omega
                      have hgs9 : gs ≤ w9.heap.size := by have := HGL8.out; omega
                      have hgs8 : gs ≤ w8.heap.size := by omega
                      have hgsl : gs + 1 ≤ gl := by have := HGL8.out; omega
                      have hBS9 := HT8.out.2.2.2.2.1.below hb8'
                      have hO39 := HT8.out.2.2.2.2.2.2.1.below hb8'
                      have b1 := bl1 w9 (.cells #[.slice A4 q c4] 22)
                      have cs1 := (hBS9.below b1).cell
                      have cs0 := hBS9.cell
                      have HR1 := Lib.hid (Blk.rd (cs := [.slice A4 q c4]) (Blk.new w9 22 #[.slice A4 q c4]))
                      have HA := Lib.hid (And.intro (hO39.below b1) (And.intro (hBS9.below b1) (And.intro ((HT8.out.2.2.2.2.2.2.2.2.2.trans ((hb8'.mono hgs8))).trans (b1.mono hgs9)) (And.intro (hO4.below b1) hq))))
                      have hm1 : a + 1 ≤ maxLen := by unfold maxLen; omega
                      have hm2 : (a + 1) * 24 ≤ 140737488355328 := by omega
                      have hzz : gs + 1 ≤ (w9.alloc (.cells #[.slice A4 q c4] 22)).heap.size := by rw [World.size_alloc]; have := HGL8.out; omega
                      have HBZ1 : Hid (∀ b' ∈ bz, BzAt (w9.alloc (.cells #[.slice A4 q c4] 22)) (gs + 1) b') := Lib.hid fun b' hb' => ((HT8.out.2.2.2.2.2.2.2.1 b' hb').below hb8').below b1
                      clear hO4 hq hb8 hb8' hBS9 hO39 b1 htk hz9 hbe
                      go_wp2_with (at_builtin; refine wpList_app _ rfl (.tmp 165) (.tmp 167) 29 rfl (gs + 1) 22 (.slice none 0 0) 1 24 Try.underlying29 info22 rfl (by decide) A3 a c3 _ rfl HA.out.1 _ _ 1 1 [.slice A4 q c4] rfl rfl HR1.out (by intro u hu; simp at hu; subst hu; rfl) hm1 hm2 hzz ?_; intro A6 c6 wb hob hgb hbkb; have Bb := HA.out.2.1.grown hgb (own_blk_ne HA.out.1 HA.out.2.1 (by decide)); have bb := Bb.cell; have fb := Bb.frozen)
                      obtain ⟨y, hy⟩ : ∃ y : Bz, y = ⟨A4, c4, tbB M tes⟩ := ⟨_, rfl⟩
                      have hyv : y.v = .slice A4 q c4 := by rw [hy]; simp only [Bz.v, HA.out.2.2.2.2]
                      have hbne : ∀ {b9 : Nat} {A9 : Option Addr} {n9 c9 : Nat} {v9 : List Value}, Own (w9.alloc (.cells #[.slice A4 q c4] 22)) b9 5 1 A9 n9 c9 v9 → Own (wb.setCell ⟨gs, 2, none⟩ (.slice A6 (a + 1) c6)) b9 5 1 A9 n9 c9 v9 := fun h9 => by
                        have h10 := h9.grown hgb (own_own_ne h9 HA.out.1 (by decide))
                        exact h10.far (p := ⟨gs, 2, none⟩) (fun e => by
                          obtain ⟨cs, hcs⟩ := h10.row e
                          have := blk_ty hcs Bb
                          cases this) _
                      have FIN : Hid (Blk (wb.setCell ⟨gs, 2, none⟩ (.slice A6 (a + 1) c6)) gs 73 #[.int .i64 k, .bool lk, .slice A6 (a + 1) c6] ∧ (bz ++ [y]).length = a + 1 ∧ Own (wb.setCell ⟨gs, 2, none⟩ (.slice A6 (a + 1) c6)) (gs + 1) 22 1 A6 (a + 1) c6 ((bz ++ [y]).map Bz.v) ∧ (∀ b' ∈ bz ++ [y], BzAt (wb.setCell ⟨gs, 2, none⟩ (.slice A6 (a + 1) c6)) (gs + 1) b') ∧ (bz ++ [y]).map Bz.bs = (tabs.take (a + 1)).map (fun t => tbB M t.es) ∧ Below gs w6 (wb.setCell ⟨gs, 2, none⟩ (.slice A6 (a + 1) c6))) := Lib.hid (by
                        refine ⟨Bb.set_ 2 _, by rw [List.length_append, HT8.out.2.2.2.2.2.1]; rfl, ?_, fun b' hb' => ?_, ?_, ?_⟩
                        · rw [List.map_append, List.map_cons, List.map_nil, hyv]
                          exact hob.far (p := ⟨gs, 2, none⟩) (fun e => by
                            obtain ⟨cs, hcs⟩ := hob.row e
                            have := blk_ty hcs Bb
                            cases this) _
                        · rcases List.mem_append.1 hb' with h | h
                          · exact hbne (HBZ1.out b' h)
                          · rw [List.mem_singleton.1 h, hy]
                            have h9 := hbne (HA.out.2.2.2.1.more hgsl)
                            unfold BzAt
                            simp only [← HA.out.2.2.2.2]
                            exact h9
                        · rw [List.map_append, HT8.out.2.2.2.2.2.2.2.2.1, List.take_add_one, HT8.out.1, List.map_append, hy]
                          rfl
                        · exact ((HA.out.2.2.1).grown hgb (by omega) (fun r hr => by have := (HA.out.1.lt hr).1; omega)).setCell (p := ⟨gs, 2, none⟩) (Nat.le_refl _) _)
                      clear hob hgb hbkb Bb bb fb hy hyv hbne HA HR1 cs0 cs1 hm1 hm2 hzz
                      go_roundw
                      case rel => exact ⟨a + 1, A6, c6, bz ++ [y], hat, by go_num, FIN.out⟩
                      case measure => simp [intOf]; omega
                · obtain rfl : a = tn := by omega
                  have htk : tabs.take a = tabs := List.take_of_length_le (by rw [HTN.out]; exact Nat.le_refl _)
                  rw [htk] at hbb
                  have hbg' : Below w6.heap.size w6 w8 := by rw [HW7.out.2.2.2]; exact hbg
                  have hL8 := HL.out.below HP.out hbg'
                  have hGL := HG.out w8 hL8.bel
                  have hTgs : T ≤ gs := by have := HL.out.mem.tz; have := HW7.out.2.2.2; omega
                  have hxm := List.mem_of_getElem? HXX.out
                  have hfk := hGL.first k _ HXX.out
                  simp only at hfk
                  have hfk16 : fT cl k ≤ 16 := Nat.le_trans (fT_mono cl (show k ≤ cl.length by rw [HNL.out]; omega)) hGL.m16
                  obtain ⟨gx', ox', hge, -, hcx⟩ := hGL.rl.row (by
                    intro e
                    have h1 := lcells_len cl
                    rw [e, HNL.out] at h1
                    simp at h1
                    omega)
                  injection hge with hge
                  injection hge with hg1 hg2
                  subst hg1
                  subst hg2
                  have x0 := hcx _ _ (lcells_at HXX.out (j := 0) rfl)
                  have x1 := hcx _ _ (lcells_at HXX.out (j := 1) rfl)
                  have x2 := hcx _ _ (lcells_at HXX.out (j := 2) rfl)
                  have x3 := hcx _ _ (lcells_at HXX.out (j := 3) rfl)
                  have x4 := hcx _ _ (lcells_at HXX.out (j := 4) rfl)
                  have x5 := hcx _ _ (lcells_at HXX.out (j := 5) rfl)
                  have x6 := hcx _ _ (lcells_at HXX.out (j := 6) rfl)
                  have x7 := hcx _ _ (lcells_at HXX.out (j := 7) rfl)
                  simp only [← Nat.add_assoc, Nat.add_zero] at x0 x1 x2 x3 x4 x5 x6 x7
                  rw [HTN.out] at x1
                  have SP := Lib.hid (sample_any hL8.mem ⟨xA, xc, tabs, first, false, xev, pre, pri, on, ch⟩ (by simp only [HTN.out]; exact htn16) (hGL.t7 _ hxm) (hGL.wf _ hxm) (by simp only; omega) (hGL.rl.tab k _ HXX.out) (fun a' t' ht' => hGL.rl.ent k _ a' t' HXX.out ht'))
                  have hagg : (⟨xA, xc, tabs, first, false, xev, pre, pri, on, ch⟩ : Lc).cs.toArray = #[.int .i64 first, .slice xA a xc, .bool false, .int .u8 xev, .int .u8 pre, .int .u8 pri, .bool on, .bool ch] := by simp only [Lc.cs, HTN.out]
                  rw [hagg] at SP
                  have SP2 : Hid (Calls Try.prog 26 #[.pointer (some ⟨m, 0, none⟩), .agg #[.int .i64 first, .slice xA a xc, .bool false, .int .u8 xev, .int .u8 pre, .int .u8 pri, .bool on, .bool ch]] w8 fun e w' => ∃ (A5 : Option Addr) (c5 : Nat) (pl : List Pk), e = .returned (.slice A5 a c5) ∧ Own w' w8.heap.size 82 3 A5 a c5 (pcells pl) ∧ (∀ p ∈ pl, PkAt w' w8.heap.size p) ∧ pl.map Pk.d = (List.range a).map (pkD M ⟨xA, xc, tabs, first, false, xev, pre, pri, on, ch⟩) ∧ Below w8.heap.size w8 w') := Lib.hid (SP.out.mono fun e w' h => by
                    obtain ⟨A5, c5, pl, h1, h2, h3, h4, h5⟩ := h
                    have ht : (⟨xA, xc, tabs, first, false, xev, pre, pri, on, ch⟩ : Lc).tabs.length = a := HTN.out
                    rw [ht] at h1 h2 h4
                    exact ⟨A5, c5, pl, h1, h2, h3, h4, h5⟩)
                  have H8 := Lib.hid (And.intro hL8 (And.intro hBS (And.intro hbl (And.intro hO3 (And.intro hbz (And.intro hbb (And.intro hTgs (And.intro hfk (And.intro hfk16 hbg')))))))))
                  have hgs8 : gs + 1 ≤ w8.heap.size := hBS.lt
                  clear hat htk hbb hbg' hbg hL8 hGL hcx hBS hbl hO3 hbz hxm hfk hfk16 hagg
                  go_wp2_with fail
                  refine SP2.out.mono ?_
                  rintro e wp ⟨A5, c5, pl, rfl, hOp, hPk, hpd, hbp⟩
                  have hL9 := H8.out.1.below HP.out hbp
                  have hitk := it_keys M ⟨xA, xc, tabs, first, false, xev, pre, pri, on, ch⟩ (fT cl k) H8.out.2.2.2.2.2.2.2.1 pl (by simp only [HTN.out]; exact hpd)
                  simp only at hitk
                  have hpln : pl.length = a := by
                    have := congrArg List.length hpd
                    simpa using this
                  have hcode : ∀ t ∈ pl.map Pk.it, 0 ≤ t.code ∧ t.code < 64 := fun t ht => by
                    have h1 : t.key ∈ (pl.map Pk.it).map It.key := List.mem_map.2 ⟨t, ht, rfl⟩
                    rw [hitk] at h1
                    obtain ⟨i', hi', he'⟩ := List.mem_map.1 h1
                    rw [List.mem_range, List.length_map, HTN.out] at hi'
                    have h2 := congrArg (fun z : Int × Int × List Int => z.2.1) he'
                    simp only [It.key] at h2
                    have h3 := H8.out.2.2.2.2.2.2.2.2.1
                    omega
                  have hrd : ItRd wp (pl.map Pk.it) := fun t ht => by
                    obtain ⟨p, hp, rfl⟩ := List.mem_map.1 ht
                    have ho := hPk p hp
                    unfold PkAt at ho
                    have hbnd : p.bs.length ≤ 1000000 := by
                      have h1 : p.d ∈ pl.map Pk.d := List.mem_map.2 ⟨p, hp, rfl⟩
                      rw [hpd] at h1
                      obtain ⟨i', hi', he'⟩ := List.mem_map.1 h1
                      rw [List.mem_range] at hi'
                      obtain ⟨t', ht'⟩ : ∃ t', tabs[i']? = some t' := ⟨_, List.getElem?_eq_getElem (by rw [HTN.out]; exact hi')⟩
                      have h2 := congrArg Prod.snd he'
                      simp only [pkD, List.getD_eq_getElem?_getD, ht', Option.getD_some, Pk.d] at h2
                      have htm := List.mem_of_getElem? ht'
                      have hg8 := HG.out w8 H8.out.1.bel
                      have hxm := List.mem_of_getElem? HXX.out
                      have h3 := tbB_le M t'.es (hg8.wf _ hxm t' htm)
                      have h4 := hg8.t7 _ hxm t' htm
                      rw [← h2]
                      omega
                    exact ⟨rfl, hbnd, fun e => ⟨by have h1 := ho.2.1; have h2 := ho.2.2.2.1 e; show p.bs.length = 0; omega, ho.2.2.2.1 e⟩, ho.rd, ho.2.1, ho.2.2.1⟩
                  have hyo : ∀ g', (blkOf A5 = some g' ∨ ∃ t ∈ pl.map Pk.it, t.b ≠ [] ∧ blkOf t.A = some g') → ¬ qF T Aq g' := fun g' hg' hq' => by
                    have h1 : w8.heap.size ≤ g' := by
                      rcases hg' with h | ⟨t, ht, -, h⟩
                      · exact (hOp.lt h).1
                      · obtain ⟨p, hp, rfl⟩ := List.mem_map.1 ht
                        exact ((hPk p hp).lt h).1
                    rcases hq' with h2 | h2
                    · have := H8.out.1.qu.blk.lt; omega
                    · have := (H8.out.1.qu.own.lt h2).2; omega
                  have PT := Lib.hid (putl_any hL9.qu hL9.mem.tz HP.out.most hL9.le hk4' (A := A5) (n := a) (c := c5) (its := pl.map Pk.it) (by rw [List.length_map]; exact hpln) htn16 (by rw [← pcells_it]; exact hOp.rd) hrd hcode hyo)
                  have hBS9 := H8.out.2.1.below hbp
                  have hO39 := H8.out.2.2.2.1.below hbp
                  have hbz9 : ∀ b ∈ bz, BzAt wp (gs + 1) b := fun b hb => (H8.out.2.2.2.2.1 b hb).below hbp
                  have hb69 : Below w6.heap.size w6 wp := H8.out.2.2.2.2.2.2.2.2.2.trans (hbp.mono H8.out.2.2.2.2.2.2.2.2.2.size)
                  have H9 := Lib.hid (And.intro hL9 (And.intro hBS9 (And.intro hO39 (And.intro hbz9 (And.intro hitk hb69)))))
                  clear hb69 hOp hPk hpd hbp hL9 hitk hpln hcode hrd hyo hBS9 hO39 hbz9 SP SP2 x0 x1 x2 x3 x4 x5 x6 x7
                  go_wp2_with fail
                  refine PT.out.mono ?_
                  rintro e wq ⟨pb, rfl, hcq, hpf, hpt⟩
                  have hFq : FT wp T (qF T Aq) [127, 82] := fun i' hi' _ => by
                    rcases hi' with rfl | h1
                    · exact .inr ⟨127, _, H9.out.1.qu.blk, by simp⟩
                    · obtain ⟨cs, hcs⟩ := H9.out.1.qu.own.row h1
                      exact .inr ⟨82, cs, hcs, by simp⟩
                  have hOkq : Own wq T 3 1 (some ⟨gk, ok, none⟩) nk ck (ints ks) := by
                    exact (HOK.out.below H9.out.2.2.2.2.2).ft hcq hFq (by decide) (Nat.le_refl _)
                  have hbd := fun (v : Bool) => (Chg.refl (fun i' => i' = d) wq).at_ (q := d) (Eq.refl d) k (.bool v)
                  clear PT
                  cases pb
                  · obtain ⟨ql', hq', h1, h0⟩ := hpf rfl
                    have p4 := (H9.out.1.queued HP.out hq' hcq).2.2.2.1
                    have cd := p4.cell
                    have fd := p4.frozen
                    have hdk := (cd k).trans (show (lo.map Value.bool).toArray[k]? = some (.bool lk) by simp [HLK.out])
                    have FIN := Lib.hid (And.intro (H9.out.1.lostS HP.out HXX.out hk4' hcq hq' (by simp only [HTN.out]; exact h1) (by simp only [HTN.out]; exact h0)) (hOkq.ft (hbd true) (FT.one p4) (by decide) (Nat.le_refl _)))
                    clear hcq hpf hpt hFq hOkq hbd hq' h1 h0 cd p4
                    go_wp2_with fail
                    go_roundw
                    case rel => exact ⟨j + 1, by omega, by go_num, ⟨_, _, _, _, _, _, _, _, _, rfl, FIN.out.1⟩, FIN.out.2⟩
                    case measure => simp [intOf]; omega
                  · obtain ⟨hn0, hlen, A7, c7, l', hq', hl'⟩ := hpt rfl
                    obtain ⟨p1, p2, p3, p4, p5, p6, p7⟩ := H9.out.1.queued HP.out hq' hcq
                    have cd := p4.cell
                    have fd := p4.frozen
                    have hdk := (cd k).trans (show (lo.map Value.bool).toArray[k]? = some (.bool lk) by simp [HLK.out])
                    have hTgs := H8.out.2.2.2.2.2.2.1
                    have hBSd := ((H9.out.2.1.ft hcq hFq (by decide) hTgs).ft (hbd false) (FT.one p4) (by decide) hTgs)
                    obtain ⟨nw, hnw⟩ : ∃ nw, want.length = nw := ⟨_, rfl⟩
                    have hrw := p5.ft (hbd false) (FT.one p4) (by decide) (Nat.le_refl _)
                    rw [hnw] at hrw
                    have hwl : nw ≤ 64 := by have h1 := H9.out.1.wlen; have h2 := HP.out.most; omega
                    have hm1 : nw + 1 ≤ maxLen := by unfold maxLen; omega
                    have hm2 : (nw + 1) * 40 ≤ 140737488355328 := by omega
                    have hOkd := hOkq.ft (hbd false) (FT.one p4) (by decide) (Nat.le_refl _)
                    obtain ⟨wd, hwd⟩ : ∃ wd, wq.setCell ⟨d, k, none⟩ (.bool false) = wd := ⟨_, rfl⟩
                    have hdd : wd.cell? ⟨d, k, none⟩ = some (.bool false) := by
                      rw [← hwd]
                      have h1 := (p4.set_ k (.bool false)).cell k
                      rw [h1]
                      have h4 := H9.out.1.l4
                      simp [Array.getElem?_setIfInBounds, h4, hk4']
                    rw [hwd] at hBSd hrw hOkd
                    have b1 := bl1 wd (.cells #[.int .i64 k, .bool lk, .slice A3 a c3] 73)
                    have HR := Lib.hid (Blk.rd (cs := [.int .i64 k, .bool lk, .slice A3 a c3]) (Blk.new wd 73 #[.int .i64 k, .bool lk, .slice A3 a c3]))
                    have HRW := Lib.hid (And.intro (hrw.below b1) (hOkd.below b1))
                    have hbz : T ≤ (wd.alloc (.cells #[.int .i64 k, .bool lk, .slice A3 a c3] 73)).heap.size := by
                      have h1 := p1.tz
                      rw [World.size_alloc, ← hwd]
                      simp [World.setCell]
                      omega
                    have cs := hBSd.cell
                    obtain ⟨sa, hsa⟩ : ∃ sa : Sa, sa = ⟨k, lk, A3, c3, bz⟩ := ⟨_, rfl⟩
                    have hsl : sa.l.length = a := by rw [hsa]; exact H8.out.2.2.1
                    have hscs : sa.cs = [.int .i64 k, .bool lk, .slice A3 a c3] := by
                      have h1 := H8.out.2.2.1
                      rw [hsa]; simp only [Sa.cs, h1]
                    have hlq : ql.getD k false = lk := by
                      have h1 := H9.out.1.ls k _ HXX.out (fun e => hn0 (by have h2 := HTN.out; simp only at e; rw [e] at h2; exact h2.symm))
                      rw [HLK.out] at h1
                      rw [List.getD_eq_getElem?_getD, ← h1]
                      rfl
                    have hks : l'.map It.key = sa.pk cl := by
                      rw [hl', hlq, hsa]
                      unfold Sa.pk pkS Sa.bs
                      simp only
                      rw [H8.out.2.2.2.2.2.1, H9.out.2.2.2.2.1]
                    have hsm : SmAt wq T sa := by
                      rw [hsa]
                      refine ⟨?_, fun b hb => ((H9.out.2.2.2.1 b hb).more (by omega)).ft hcq hFq (by decide) (Nat.le_refl _)⟩
                      have h1 := H8.out.2.2.1
                      simp only [h1]
                      exact (H9.out.2.2.1.more (by omega)).ft hcq hFq (by decide) (Nat.le_refl _)
                    have GN : Hid (∀ (w9 : World) (A9 : Option Addr) (c9 : Nat), (wd.alloc (.cells #[.int .i64 k, .bool lk, .slice A3 a c3] 73)).grownBy w9 (blkOf Aw) → Own w9 T 73 3 A9 (nw + 1) c9 (sacells want ++ [.int .i64 k, .bool lk, .slice A3 a c3]) → L1c w3 L T m T (T + 1) g d cl Q w9 M A7 c7 (pk ++ l') (ql.set k false) (lo.set k false) A9 c9 (want ++ [sa]) ∧ Own w9 T 3 1 (some ⟨gk, ok, none⟩) nk ck (ints ks)) := Lib.hid fun w9 A9 c9 hg9 ho9 => by
                      refine ⟨H9.out.1.gained HP.out HXX.out rfl hk4' hcq hq' (by rw [hsa]) (by rw [hsl]; exact HTN.out.symm) (by simp only [HTN.out]; exact hn0) hks (by simp only [HTN.out]; exact hlen) hsm (by rw [hwd]; exact grown_trans_alloc hg9) (by rw [hnw, hscs]; exact ho9), HRW.out.2.grown hg9 (own_own_ne HRW.out.2 HRW.out.1 (by decide))⟩
                    have HLEN : Hid ((want ++ [sa]).length = nw + 1) := Lib.hid (by rw [List.length_append, hnw]; rfl)
                    clear hcq hpf hpt hFq hOkq hbd hn0 hlen hq' hl' p1 p2 p3 p4 p5 p6 p7 cd hBSd hrw hwl hOkd b1 hsl hscs hlq hks hsm hTgs hsa
                    try rw [hnw]
                    go_upto_region 38 with fail
                    try rw [hwd]
                    clear hwd hdk fd
                    go_wp2_with (at_builtin; refine wpList_app _ rfl (.tmp 187) (.tmp 189) 65 rfl T 73 (.agg #[.int .i64 0, .bool false, .slice none 0 0]) 3 40 Try.underlying65 info73 rfl (by decide) Aw nw cw (sacells want) rfl HRW.out.1 _ _ 1 1 [.int .i64 k, .bool lk, .slice A3 a c3] rfl rfl HR.out (by intro u hu; simp at hu; rcases hu with rfl | rfl | rfl <;> rfl) hm1 hm2 hbz ?_; intro A9 c9 w9 ho9 hg9 hbk9)
                    have FIN := Lib.hid (GN.out w9 A9 c9 hg9 ho9)
                    clear ho9 hg9 hbk9 GN HRW HR cs hbz hm1 hm2 hdd
                    go_roundw
                    case rel => exact ⟨j + 1, by omega, by go_num, ⟨_, _, _, _, _, _, _, _, _, by rw [HLEN.out], FIN.out.1⟩, FIN.out.2⟩
                    case measure => simp [intOf]; omega
            · go_wp2_with fail
              go_roundw
              case rel => exact ⟨j + 1, by omega, by go_num, ⟨_, _, _, _, _, _, _, _, _, rfl, HL.out⟩, HOK.out⟩
              case measure => simp [intOf]; omega
          · obtain rfl : j = nk := by omega
            have HL := Lib.hid hL
            clear hL hOk
            go_wp2_with fail
            go_roundw
            case rel => exact ⟨i + 1, by omega, by go_num, ⟨_, _, _, _, _, _, _, _, _, rfl, HL.out⟩⟩
            case measure => simp [intOf]; omega
    · obtain rfl : i = K := by omega
      have HL0 := Lib.hid (hL.gather HP.out)
      obtain ⟨B, hB⟩ : ∃ B, wr.heap.size = B := ⟨_, rfl⟩
      rw [hB] at HL0
      obtain ⟨nw0, hnw0⟩ : ∃ nw0, want.length = nw0 := ⟨_, rfl⟩
      clear hL hlt hbw hB
      go_wp2_with fail
      generalize wr = wo at *
      go_loopw [16] (fun wv wr => ∃ rest j A' c' Aq cq pk ql os, wv = .slice A' rest.length c' ∧ L2c w3 L B T T g cl Q wr rest j A' c' Aq cq pk ql os) (fun _ wr => qn T wr)
      case atStart => exact ⟨_, _, _, _, _, _, _, _, _, rfl, HL0.out⟩
      case round =>
        obtain ⟨rest, j, A', c', Aq, cq, pk, ql, os, rfl, hL⟩ := hrel
        clear HL0
        generalize wr = wx at *
        by_cases hpk : pk = []
        · have hre := hL.over hpk
          subst hre
          subst hpk
          have LN := Lib.hid (len_any hL.qu)
          have WK := Lib.hid (works_any wx)
          have hbf := Lib.hid (HB7.out.1.trans (hL.bel.mono HB7.out.2.1))
          have hzf : base ≤ wx.heap.size := by have h1 := hL.tz; have h2 := HB7.out; omega
          clear hL
          go_wp2_with fail
          refine LN.out.mono ?_
          rintro e w4 ⟨rfl, rfl⟩
          clear LN
          go_wp2_with fail
          refine WK.out.mono ?_
          rintro e w5 ⟨rfl, hb5⟩
          have HF := Lib.hid (hbf.out.trans (hb5.mono hzf))
          have hwb := HBA.out
          clear hb5 WK
          go_wp2_with fail
          go_ret
          exact ⟨rfl, by rw [hwb]; exact HF.out⟩
        · obtain ⟨t, r', rfl⟩ : ∃ t r', pk = t :: r' := by
            cases pk with
            | nil => exact absurd rfl hpk
            | cons t r' => exact ⟨t, r', rfl⟩
          obtain ⟨N, hN⟩ : ∃ N, (t :: r').length = N := ⟨_, rfl⟩
          have hN1 : r'.length + 1 = N := by rw [← hN]; rfl
          have hN64 : N ≤ 64 := by have := hL.le; omega
          have LN : Hid (Calls Try.prog 27 #[.pointer (some ⟨T, 0, none⟩)] wx fun e w' => e = .returned (.int .i64 (N : Int)) ∧ wx = w') := Lib.hid (by
            have := len_any hL.qu
            simp only at this
            rw [hN] at this
            exact this)
          have hN0 : (0 : Int) < N := by omega
          have NX := Lib.hid (next_yes wx hL.qu t r' rfl (by simp only; omega))
          have HL := Lib.hid hL
          have hqn0 : qn T wx = N := by rw [qn_at hL.qu]; exact hN
          have HQN := Lib.hid hqn0
          clear hL hN hpk hqn0
          go_wp2_with fail
          refine LN.out.mono ?_
          rintro e w4 ⟨rfl, rfl⟩
          clear LN
          go_wp2_with fail
          refine NX.out.mono ?_
          rintro e w4 ⟨Aq', cq', rfl, hq', -, hc4⟩
          obtain ⟨s, r, x, bj, h1, hx, hst, hxl, hjs, hk4, hcode, hbj, htb, htl, htn, heq, hga, hrow, hsm, hto, hbel⟩ := HL.out.next HLT.out (Nat.le_refl T) rfl hc4
          obtain ⟨tk, tcd, tA, tn, tcc, tbs⟩ := t
          simp only at hk4 hcode htb htl htn hto
          subst hk4
          have hz4 := hc4.size
          have hbz4 : B ≤ w4.heap.size := Nat.le_trans HL.out.bz hz4
          have htz4 : T ≤ w4.heap.size := Nat.le_trans HL.out.tz hz4
          have b1 := bl1 w4 (.cells #[.int .u8 4, .int .u8 tcd, .slice tA tn tcc] 82)
          have BX := (Blk.new w4 82 #[.int .u8 4, .int .u8 tcd, .slice tA tn tcc]).cell
          have hsk : s.k < os.length := by rw [HL.out.ol]; exact (List.getElem?_eq_some_iff.1 hx).1
          obtain ⟨o, ho⟩ : ∃ o, os[s.k]? = some o := ⟨_, List.getElem?_eq_getElem hsk⟩
          have hsh1 : Shut1 os s.k := fun i o2 hik hi => by
            by_cases h0 : j = 0
            · exact HL.out.sh h0 i o2 hi
            · exact (HL.out.sh1 s r h1 h0).1 i o2 hik hi
          have hop : (if j = 0 then [] else o.l.map Bz.bs) = s.bs.take j ∧ (if j = 0 then (decide (j = 0) && s.lost) else o.lost) = s.lost ∧ (∀ g', blkOf o.A = some g' → B ≤ g') ∧ (j ≠ 0 → o.l.length = j) := by
            by_cases h0 : j = 0
            · have h2 := HL.out.sh h0 s.k o ho
              rw [if_pos h0, if_pos h0, h0]
              refine ⟨rfl, by simp, (fun g' hg' => by rw [h2.1] at hg'; cases hg'), fun h => absurd rfl h⟩
            · obtain ⟨-, o3, ho3, h4, h5, h6⟩ := HL.out.sh1 s r h1 h0
              rw [ho] at ho3
              injection ho3 with ho3
              subst ho3
              rw [if_neg h0, if_neg h0]
              refine ⟨h4, h5, h6, fun _ => ?_⟩
              have := congrArg List.length h4
              rw [List.length_map, List.length_take, Sa.bs, List.length_map] at this
              omega
          have hmy := HL.out.om s.k o x ho hx
          have TK := take_any (B := B) (base := T) (hga.below b1) (Nat.le_trans htz4 b1.size) hx (by omega) hst ho hsh1 (HG.out w4 hbel).m16 (decide (j = 0) && s.lost) (fun h => by simp at h; exact h.1) hop.2.2.2 hcode htl (By.of_own (hto.below b1)) (fun e => ⟨by have h1 := hto.2.1; have h2 := hto.2.2.2.1 e; omega, hto.2.2.2.1 e⟩) htn hmy hop.2.2.1 (Nat.le_trans hbz4 b1.size)
          rw [hop.1, hop.2.1, hmy, ← hxl] at TK
          have HTK := Lib.hid TK
          have HN := Lib.hid (And.intro h1 (And.intro hx (And.intro hjs (And.intro hbj (And.intro htb (And.intro heq (And.intro ho (And.intro hop (And.intro (hmy.trans hxl.symm) hbel)))))))))
          have H4 := Lib.hid (And.intro hq' (And.intro hrow (And.intro hsm (And.intro b1 (And.intro hbz4 htz4)))))
          clear NX h1 hx hst hxl hjs hcode hbj htb htl htn heq hga hrow hsm hto hbel hq' hc4 b1 hsk ho hsh1 hop hmy TK hz4 hbz4 htz4
          go_wp2_with fail
          refine HTK.out.mono ?_
          rintro e w6 ⟨hct, hkp, hmore, hwhole⟩
          obtain ⟨h1, hx, hjs, hbj, htb, heq, ho, hop, hmy, hbel⟩ := HN.out
          obtain ⟨hq', hrow, hsm, b1, hbz4, htz4⟩ := H4.out
          have hz5 := b1.size
          have hz6 := hct.size
          have hplen : (s.bs.take j).length = j := by rw [List.length_take, Sa.bs, List.length_map]; omega
          have hqu6 : Qat w6 T T Aq' cq' ⟨Q, r', ql⟩ := (hq'.below b1).chT hct (by decide) (by decide) (by decide)
          have hrow6 : Own w6 T 73 3 A' rest.length c' (sacells rest) := (hrow.below b1).kp hkp HL.out.rB (by decide)
          have hsm6 : ∀ s ∈ rest, SmAt w6 T s := fun s' hs' => L2c.kept ⟨(hsm s' hs').1.below b1, fun b hb => ((hsm s' hs').2 b hb).below b1⟩ (HL.out.sB s' hs') hkp
          have hbel6 : Below L w3 w6 := hbel.trans ((b1.mono (Nat.le_trans HLT.out htz4)).trans ((hct.below (Nat.le_trans htz4 hz5)).mono HLT.out))
          have hB6 : B ≤ w6.heap.size := Nat.le_trans hbz4 (Nat.le_trans hz5 hz6)
          have hT6 : T ≤ w6.heap.size := Nat.le_trans htz4 (Nat.le_trans hz5 hz6)
          have hr64 : r'.length ≤ 64 := by omega
          by_cases hm : j + 1 < s.l.length
          · obtain ⟨rfl, o', hpre, hlo, hmy', hoB', hga6⟩ := hmore (by rw [hplen]; exact hm)
            have hL6 := HL.out.more h1 hx hbj hB6 hT6 hr64 hqu6 heq hrow6 hsm6 hbel6 ho (by rw [hop.1, ← htb]; exact hpre) (by rw [hop.2.1]; exact hlo) (hmy'.trans hmy.symm) hoB' hga6 hm
            have hL7 := Lib.hid (hL6.below (bl1 w6 (.cells noSm 73)) HLT.out)
            have hqn7 : Hid (qn T (w6.alloc (.cells noSm 73)) < qn T wx) := Lib.hid (by rw [qn_at hL7.out.qu, HQN.out]; simp only; omega)
            clear hL6 hpre hlo hmy' hoB' hga6 hct hkp hmore hwhole h1 hx hjs hbj htb heq ho hop hmy hbel hq' hrow hsm b1 hbz4 htz4 hz5 hz6 hplen hqu6 hrow6 hsm6 hbel6 hB6 hT6 hr64 BX
            go_wp2_with fail
            go_roundw
            case rel => exact ⟨rest, j + 1, _, _, _, _, _, _, _, rfl, hL7.out⟩
            case measure => exact hqn7.out
          · have hme : j + 1 = s.l.length := by omega
            obtain ⟨A7, c7, l', hl', rfl, hO7, hB7, hga6⟩ := hwhole (by rw [hplen]; exact hme)
            have hl2 : l'.map Bz.bs = s.l.map Bz.bs := by
              rw [hl']
              have h2 : s.bs.take (j + 1) = s.bs := List.take_of_length_le (by rw [Sa.bs, List.length_map]; omega)
              rw [htb]
              rw [List.take_add_one, hbj] at h2
              exact h2
            have hL6 := HL.out.whole h1 hB6 hT6 hr64 hqu6 heq hrow6 hsm6 hbel6 ho (lo := s.lost) (by rw [hmy]; exact hga6) hme
            obtain ⟨N1, hN1⟩ : ∃ N1, s.l.length = N1 := ⟨_, rfl⟩
            have hN1l : l'.length = N1 := by
              have := congrArg List.length hl2
              rwa [List.length_map, List.length_map, hN1] at this
            rw [hN1l]
            rw [hN1l] at hO7
            obtain ⟨nr, hnr⟩ : ∃ nr, rest.length = nr := ⟨_, rfl⟩
            have hnr1 : r.length + 1 = nr := by rw [← hnr, h1]; rfl
            have hsmS := hsm6 s (by rw [h1]; simp)
            have hN116 : N1 ≤ 16 := by
              have h2 := (HG.out w6 hbel6).m16
              obtain ⟨⟨x', hx', -, hxl'⟩, -⟩ := HL.out.ok s (by rw [h1]; simp)
              have h3 := fT_succ hx'
              have h4 := fT_mono cl (show s.k + 1 ≤ cl.length from (List.getElem?_eq_some_iff.1 hx').1)
              omega
            have hk4c : (s.k : Int) < 4 := by
              have h2 := (HG.out w6 hbel6).n4
              have h3 := (List.getElem?_eq_some_iff.1 hx).1
              omega
            obtain ⟨gw, ow, rfl⟩ := hrow6.at_ (by omega)
            have b7 := bl1 w6 (.cells #[.int .i64 s.k, .bool s.lost, .slice A7 N1 c7] 73)
            have BS := Blk.new w6 73 #[.int .i64 s.k, .bool s.lost, .slice A7 N1 c7]
            obtain ⟨w7, hw7⟩ : ∃ w7, w6.alloc (.cells #[.int .i64 s.k, .bool s.lost, .slice A7 N1 c7] 73) = w7 := ⟨_, rfl⟩
            obtain ⟨gz, hgz⟩ : ∃ gz, w6.heap.size = gz := ⟨_, rfl⟩
            rw [hw7] at b7 BS
            rw [hgz] at BS
            have hL7 := hL6.below b7 HLT.out
            have hrow7 := hrow6.below b7
            have hO77 := hO7.below b7
            have hB77 : ∀ b ∈ l', BzAt w7 T b := fun b hb => (hB7 b hb).below b7
            have hsm7 : SmAt w7 T s := ⟨hsmS.1.below b7, fun b hb => (hsmS.2 b hb).below b7⟩
            have hcap : nr ≤ c' := by have := hrow7.2.1; omega
            have hcm : c' ≤ maxLen := hrow7.2.2.1
            have HW := Lib.hid (And.intro hL7 (And.intro hrow7 (And.intro hO77 (And.intro hB77 (And.intro hsm7 (And.intro BS (And.intro hl2 (And.intro hN1 (And.intro hN1l (And.intro h1 hcm))))))))))
            have hqn7 : Hid (∀ w', Below w7.heap.size w7 w' → qn T w' < qn T wx) := Lib.hid fun w' hb => by rw [qn_at (hL7.below hb HLT.out).qu, HQN.out]; simp only; omega
            have HNR := Lib.hid (And.intro hnr hnr1)
            try rw [hnr]
            clear hct hkp hmore hwhole h1 hx hjs hbj htb heq ho hop hmy hbel hq' hrow hsm b1 hbz4 htz4 hz5 hz6 hplen hqu6 hrow6 hsm6 hbel6 hB6 hT6 hr64 BX hL6 hl' hO7 hB7 hga6 hl2 hN1 hN1l hsmS b7 BS hL7 hrow7 hO77 hB77 hsm7 hme hcm hnr
            have hr7 := HW.out.2.1
            have hnr0 : ((nr : Int) == 0) = false := by simp; omega
            have hnrI : (0 : Int) < nr := by omega
            have z0 := hr7.cells _ _ (sacells_at (show rest[0]? = some s by rw [HW.out.2.2.2.2.2.2.2.2.2.1]; rfl) (j := 0) rfl)
            have z1 := hr7.cells _ _ (sacells_at (show rest[0]? = some s by rw [HW.out.2.2.2.2.2.2.2.2.2.1]; rfl) (j := 1) rfl)
            have z2 := hr7.cells _ _ (sacells_at (show rest[0]? = some s by rw [HW.out.2.2.2.2.2.2.2.2.2.1]; rfl) (j := 2) rfl)
            simp only [Nat.zero_mul, Nat.zero_add, Nat.add_zero] at z0 z1 z2
            rw [HW.out.2.2.2.2.2.2.2.1] at z2
            have bs7 := HW.out.2.2.2.2.2.1.cell
            have hlb : (s.lost != s.lost) = false := by simp
            clear hr7
            go_upto_region 47 with fail
            try rw [hw7]
            try rw [hgz]
            clear hw7 hgz
            go_wp2_with fail
            go_quiet (fail)
            have hbq := bel_drewN (Below.refl w7.heap.size w7) nq
            have HBQ := Lib.hid hbq
            clear hbq
            generalize w7.drewN nq = w8 at *
            have bs8 := (HW.out.2.2.2.2.2.1.below HBQ.out).cell
            clear bs7 z0 z1 z2
            go_wp2_with fail
            go_loopw [246] (fun iv wr => ∃ i1 : Nat, i1 ≤ N1 ∧ iv = .int .i64 i1 ∧ Below w7.heap.size w7 wr) (fun iv _ => N1 - (intOf iv).toNat)
            case atStart => exact ⟨0, Nat.zero_le _, rfl, HBQ.out⟩
            case round =>
              obtain ⟨i1, hi1, rfl, hb7⟩ := hrel
              generalize wr = wy at *
              clear HBQ
              by_cases hi1n : i1 < N1
              · have hi1I : (i1 : Int) < N1 := by omega
                obtain ⟨hL7, hrow7, hO77, hB77, hsm7, BS, hl2, hN1, hN1l, h1, hcm⟩ := HW.out
                have bsy := (BS.below hb7).cell
                have hrowy := hrow7.below hb7
                have z2 := hrowy.cells _ _ (sacells_at (show rest[0]? = some s by rw [h1]; rfl) (j := 2) rfl)
                simp only [Nat.zero_mul, Nat.zero_add] at z2
                rw [hN1] at z2
                obtain ⟨y1, hy1⟩ : ∃ y1, l'[i1]? = some y1 := ⟨_, List.getElem?_eq_getElem (by rw [hN1l]; exact hi1n)⟩
                obtain ⟨y2, hy2⟩ : ∃ y2, s.l[i1]? = some y2 := ⟨_, List.getElem?_eq_getElem (by rw [hN1]; exact hi1n)⟩
                have hyb : y1.bs = y2.bs := by
                  have h2 := congrArg (fun z => z[i1]?) hl2
                  simp only [List.getElem?_map, hy1, hy2, Option.map_some, Option.some.injEq] at h2
                  exact h2
                have hO7y := hO77.below hb7
                have hOsy := hsm7.1.below hb7
                rw [hN1] at hOsy
                obtain ⟨g7, o7, rfl⟩ := hO7y.at_ (by omega)
                obtain ⟨gs7, os7, hsA⟩ := hOsy.at_ (by omega)
                rw [hsA] at z2 hOsy
                have e1 := hO7y.cells i1 (.slice y1.A y1.bs.length y1.c) (by rw [List.getElem?_map, hy1]; rfl)
                have e2 := hOsy.cells i1 (.slice y2.A y2.bs.length y2.c) (by rw [List.getElem?_map, hy2]; rfl)
                have k1 : Own wy T 5 1 y1.A y1.bs.length y1.c (u8s y1.bs) := (hB77 y1 (List.mem_of_getElem? hy1)).below hb7
                have k2 : Own wy T 5 1 y2.A y2.bs.length y2.c (u8s y2.bs) := (hsm7.2 y2 (List.mem_of_getElem? hy2)).below hb7
                have v1 := fun nq => (k1.conv (n := y1.bs.length) (P := Try.prog) (src := 22) (dst := 9) Try.underlying22 Try.underlying5 Try.underlying9 rfl) _ (bel_drewN (Below.refl wy.heap.size wy) nq)
                have v2 := fun nq => (k2.conv (n := y2.bs.length) (P := Try.prog) (src := 22) (dst := 9) Try.underlying22 Try.underlying5 Try.underlying9 rfl) _ (bel_drewN (Below.refl wy.heap.size wy) nq)
                rw [← hyb] at v2 e2
                have hcvb : ((bstr y1.bs).toList == (bstr y1.bs).toList) = true := beq_self_eq_true _
                clear hL7 hrow7 hO77 hB77 hsm7 BS hl2 hN1 hN1l h1 hcm hrowy hy1 hy2 hO7y hOsy k1 k2 hyb hsA
                go_wp2_with fail
                go_quiet (fail)
                have hbq := hb7.trans ((bel_drewN (Below.refl wy.heap.size wy) nq).mono hb7.size)
                have HBY := Lib.hid hbq
                clear hbq
                go_wp2_with fail
                go_roundw
                case rel => exact ⟨i1 + 1, by omega, by go_num, HBY.out⟩
                case measure => simp [intOf]; omega
              · obtain rfl : i1 = N1 := by omega
                have hL8 := Lib.hid (HW.out.1.below hb7 HLT.out)
                have hqy := Lib.hid (hqn7.out wy hb7)
                have hr1 := HNR.out.2
                have hcm := HW.out.2.2.2.2.2.2.2.2.2.2
                unfold maxLen at hcm
                clear hb7 bs8 hi1n
                by_cases hc1 : c' = 1
                · subst hc1
                  obtain rfl : nr = 1 := by omega
                  have hr0 : r = [] := List.eq_nil_of_length_eq_zero (by omega)
                  have hL9 := hL8.out
                  rw [if_pos rfl] at hL9
                  have HL9 := Lib.hid hL9
                  clear hL9 hcm hr1
                  go_wp2_with fail
                  go_roundw
                  case rel => exact ⟨r, 0, _, _, _, _, _, _, _, by rw [hr0]; rfl, HL9.out⟩
                  case measure => exact hqy.out
                · have hL9 := hL8.out
                  rw [if_neg hc1] at hL9
                  have HL9 := Lib.hid hL9
                  have hn1 : (1 : Int) ≤ nr := by omega
                  have hnc : (nr : Int) ≤ c' := by omega
                  clear hL9 hcm
                  have hrn : r.length = nr - 1 := by omega
                  go_wp2_with fail
                  go_roundw
                  case rel => exact ⟨r, 0, _, _, _, _, _, _, _, by rw [hrn]; rfl, HL9.out⟩
                  case measure => exact hqy.out
end Go.Proofs.Yteecgdbicokgoaa
