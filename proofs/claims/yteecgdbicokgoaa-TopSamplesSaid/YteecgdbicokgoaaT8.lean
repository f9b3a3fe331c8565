/- TopSamples' laid: lists as commands make them. -/
import Derived.Test.YteecgdbicokgoaaT6
import Derived.Test.YteecgdbicokgoaaT7
import Derived.Test.YteecgdbicokgoaaGG
namespace Go.Proofs.Yteecgdbicokgoaa
open Go.RowKit
set_option linter.unusedVariables false
set_option linter.unusedSimpArgs false
set_option maxRecDepth 100000
theorem fT_abs (cl : List Lc) (i : Nat) : fT cl i = manyT ((abs cl).take i) := by
  unfold fT manyT abs
  rw [← List.map_take, List.map_map]
  congr 1
  refine List.map_congr_left fun x _ => ?_
  simp [Lc.ab]
theorem lsts_many : ∀ (l : List Ls) (n i : Nat), manyT ((lsts n l).take i) = manyT (l.take i)
  | [], n, i => by simp [lsts]
  | x :: l, n, 0 => by simp [lsts, manyT]
  | x :: l, n, i + 1 => by
    have ih := lsts_many l (n + x.tabs.length) i
    simp only [lsts, List.take_succ_cons, manyT, List.map_cons, List.sum_cons] at ih ⊢
    omega
/-- Lists as they were laid. -/
structure GL (w : World) (A : Option Addr) (cl : List Lc) : Prop where
  rl : RL w A cl
  n4 : cl.length ≤ 4
  m16 : fT cl cl.length ≤ 16
  t7 : ∀ x ∈ cl, ∀ t ∈ x.tabs, t.es.length ≤ 7
  wf : ∀ x ∈ cl, ∀ t ∈ x.tabs, ∀ e ∈ t.es, e.wf
  first : ∀ (i : Nat) (x : Lc), cl[i]? = some x → x.first = (fT cl i : Nat)
  ab : ∀ g, blkOf A = some g → g < w.heap.size
theorem GL.below {w w' : World} {A : Option Addr} {cl : List Lc} (h : GL w A cl) (hb : Below w.heap.size w w') : GL w' A cl := ⟨h.rl.below hb, h.n4, h.m16, h.t7, h.wf, h.first, fun g hg => Nat.lt_of_lt_of_le (h.ab g hg) hb.size⟩
theorem GL.none_ (w : World) : GL w none [] := ⟨⟨Rd.nil, (fun i x h => by simp at h), fun i x k t h => by simp at h⟩, by decide, by decide, (fun x hx => by cases hx), (fun x hx => by cases hx), (fun i x h => by simp at h), fun g hg => by cases hg⟩
theorem GL.of_daq {w : World} {A : Option Addr} {cl : List Lc} {a : Dq} (hok : a.ok) (hab : abs cl = listsX a.ls) (hr : RL w A cl) (hA : ∀ g, blkOf A = some g → g < w.heap.size) : GL w A cl := by
  have hlen : cl.length = a.ls.length := by
    have := congrArg List.length hab
    rwa [abs_len, listsX, lsts_len] at this
  have hfT : ∀ i, fT cl i = manyT (a.ls.take i) := fun i => by rw [fT_abs, hab, listsX, lsts_many]
  have hget : ∀ (i : Nat) (x : Lc), cl[i]? = some x → ∃ y, a.ls[i]? = some y ∧ x.ab = { y with first := ((manyT (a.ls.take i) : Nat) : Int) } := fun i x hx => by
    have h1 := abs_get hx
    rw [hab, listsX, lsts_get] at h1
    cases hy : a.ls[i]? with
    | none => rw [hy] at h1; cases h1
    | some y =>
      rw [hy] at h1
      simp only [Option.map_some, Option.some.injEq] at h1
      exact ⟨y, rfl, by rw [← h1]; simp⟩
  have htab : ∀ x ∈ cl, ∃ y ∈ a.ls, x.tabs.map Tb.ab = y.tabs := fun x hx => by
    obtain ⟨i, hi⟩ := List.mem_iff_getElem?.1 hx
    obtain ⟨y, hy, he⟩ := hget i x hi
    refine ⟨y, List.mem_of_getElem? hy, ?_⟩
    have := congrArg Ls.tabs he
    simpa [Lc.ab] using this
  refine ⟨hr, by rw [hlen]; exact hok.n4, ?_, fun x hx t ht => ?_, fun x hx t ht => ?_, fun i x hx => ?_, hA⟩
  · rw [hfT]
    exact Nat.le_trans (many_le _ _) hok.m16
  · obtain ⟨y, hy, he⟩ := htab x hx
    have : t.es ∈ y.tabs := by rw [← he]; exact List.mem_map.2 ⟨t, ht, rfl⟩
    exact hok.t7 y hy _ this
  · obtain ⟨y, hy, he⟩ := htab x hx
    have : t.es ∈ y.tabs := by rw [← he]; exact List.mem_map.2 ⟨t, ht, rfl⟩
    exact hok.wf y hy _ this
  · obtain ⟨y, hy, he⟩ := hget i x hx
    have := congrArg Ls.first he
    rw [hfT]
    simpa [Lc.ab] using this
def LaidP (w : World) (base : Nat) (e : Ending) (w' : World) : Prop := ∃ A c cl, e = .returned (.slice A cl.length c) ∧ GL w' A cl ∧ Below base w w'
theorem cmsC_at {l : List Cm} {k : Nat} {t : Cm} (h : l[k]? = some t) {j : Nat} {u : Value} (hu : t.cs[j]? = some u) : (cmsC l)[k * 8 + j]? = some u := flatC_at Cm.cs 8 l (fun _ _ => rfl) k t h j u hu
/-- A list's event, set. -/
theorem FwA.setEv {w : World} {base : Nat} {g o c : Nat} {cl : List Lc} (h : FwA w base (some ⟨g, o, none⟩) c cl) {i : Nat} {x : Lc} (hx : cl[i]? = some x) {v : Int} (hv : 0 ≤ v ∧ v < 256) :
    FwA (w.setCell ⟨g, o + i * 8 + 3, none⟩ (.int .u8 v)) base (some ⟨g, o, none⟩) c (cl.set i { x with ev := v }) := by
  obtain ⟨hi, -⟩ := List.getElem?_eq_some_iff.1 hx
  have hxm := List.mem_of_getElem? hx
  have hc : Chg (fun j => j = g) w (w.setCell ⟨g, o + i * 8 + 3, none⟩ (.int .u8 v)) := (Chg.refl (fun j => j = g) _).at_ (q := g) (Eq.refl g) _ _
  have hgb := (h.row.lt (g := g) rfl).1
  have hL : ∀ y, FwL w base y → FwL (w.setCell ⟨g, o + i * 8 + 3, none⟩ (.int .u8 v)) base y := fun y hy =>
    ⟨hy.n, hy.row.chg hc fun q hq e => by
      obtain ⟨cs, hcs⟩ := h.row.row (g := g) rfl
      exact hy.row.ne_blk hq (by rw [e]; exact hcs) (by decide) rfl, fun t ht => ⟨(hy.sm t ht).1, (hy.sm t ht).2.1.setCell (p := ⟨g, o + i * 8 + 3, none⟩) hgb _, (hy.sm t ht).2.2⟩, hy.num⟩
  refine ⟨?_, fun y hy => ?_, by rw [List.length_set]; exact h.n4⟩
  · have hp := flatC_put Lc.cs 8 cl (fun _ _ => rfl) i x { x with ev := v } hx 3 [.int .u8 v] (by simp) rfl
    have hs := h.row.set_ (i * 8 + 3) (by omega) (.int .u8 v)
    rw [List.length_set, Nat.add_assoc]
    have he : lcells (cl.set i { x with ev := v }) = (lcells cl).set (i * 8 + 3) (.int .u8 v) := hp.symm
    rw [he]
    exact hs
  · rcases List.mem_or_eq_of_mem_set hy with hy | rfl
    · exact hL y (h.all y hy)
    · have hx' := hL x (h.all x hxm)
      exact ⟨hx'.n, hx'.row, hx'.sm, hv, hx'.num.2⟩
theorem FwA.rsb {w : World} {base : Nat} {A : Option Addr} {c : Nat} {cl : List Lc} (h : FwA w base A c cl) (hz : base ≤ w.heap.size) : RSb w w.heap.size A cl :=
  ⟨h.row.rd, fun x hx => ⟨(h.all x hx).n, (h.all x hx).row.rd⟩, fun x hx t ht => ⟨((h.all x hx).sm t ht).1, ((h.all x hx).sm t ht).2.1.more hz, ((h.all x hx).sm t ht).2.2⟩, fun x hx => (h.all x hx).num, h.n4⟩
set_option maxHeartbeats 8000000 in
theorem laid_any {w : World} {base : Nat} {A : Option Addr} {c n : Nat} {cl : List Lc} (hF : FwA w base A c cl) (hz : base ≤ w.heap.size) (hl : cl.length = n) : Calls Try.prog 18 #[.slice A n c] w (LaidP w base) := by
  have hn4 : n ≤ 4 := by rw [← hl]; exact hF.n4
  have HX := Lib.hid (And.intro hF hl)
  clear hF hl
  go_enter Try.func18, Try.ntmps18
  go_wp2_with fail
  go_loopw [14] (fun iv wr => ∃ (i : Nat) (cl' : List Lc), i ≤ n ∧ iv = .int .i64 i ∧ cl'.length = n ∧ FwA wr base A c cl' ∧ Below base w wr) (fun iv _ => n - (intOf iv).toNat)
  case atStart => exact ⟨0, cl, Nat.zero_le _, rfl, HX.out.2, HX.out.1, Below.refl _ _⟩
  case round =>
    obtain ⟨i, cl', hi, rfl, hl, hF, hb⟩ := hrel
    by_cases hlt : i < n
    · have hltI : (i : Int) < n := by omega
      obtain ⟨g, o, rfl⟩ := hF.row.at_ (by omega)
      obtain ⟨x, hx⟩ : ∃ x, cl'[i]? = some x := ⟨_, List.getElem?_eq_getElem (by omega)⟩
      have hnum := (hF.all x (List.mem_of_getElem? hx)).num.1
      have c3 := hF.row.cells _ _ (lcells_at hx (j := 3) rfl)
      rw [← Nat.add_assoc] at c3
      have f3 := hF.row.frozen
      have hgb := (hF.row.lt (g := g) rfl).1
      obtain ⟨v, hv⟩ : ∃ v, x.ev % 4 = v := ⟨_, rfl⟩
      have hv4 : 0 ≤ v ∧ v < 256 := by omega
      have hvt : Int.tmod x.ev 4 = v := by rw [Int.tmod_eq_emod_of_nonneg hnum.1]; exact hv
      have HF := Lib.hid (And.intro (hF.setEv hx hv4) (hb.setCell (p := ⟨g, o + i * 8 + 3, none⟩) hgb (.int .u8 v)))
      obtain ⟨ev, hev⟩ : ∃ ev, x.ev = ev := ⟨_, rfl⟩
      rw [hev] at c3 hv hvt
      have HL : Hid ((cl'.set i { x with ev := v }).length = n) := Lib.hid (by rw [List.length_set]; exact hl)
      clear hl hF hb hx hnum hv4 hev
      go_wp2_with fail
      go_roundw
      case rel => exact ⟨i + 1, _, by omega, by go_num, HL.out, HF.out⟩
      case measure => simp [intOf]; omega
    · obtain rfl : i = n := by omega
      have hzw : base ≤ wr.heap.size := Nat.le_trans hz hb.size
      have LY := Lib.hid (lay_any (c := c) hl (hF.rsb hzw))
      have HB := Lib.hid hb
      clear hl hF hb hlt
      go_wp2_with fail
      refine LY.out.mono ?_
      rintro e w2 ⟨hb2, hcase⟩
      have hz2 : base ≤ w2.heap.size := Nat.le_trans hzw hb2.size
      have HB2 := Lib.hid (HB.out.trans (hb2.mono hzw))
      have ND := Lib.hid (newd_any (fun _ => (0, 9)) w2.heap.size 4 w2 (Nat.le_refl _) (nu0 w2) (by decide) (by decide))
      clear LY hb2 HB
      rcases hcase with ⟨E, hE, rfl⟩ | ⟨Ac, cc, cms, rfl, hO, hbare, h64⟩
      · have hE0 : (E == 0) = false := by simpa using hE
        go_wp2_with fail
        refine ND.out.mono ?_
        rintro e w3 ⟨q, Φ', rfl, -, -, hX⟩
        have HB3 := Lib.hid (HB2.out.trans ((hX.below (Nat.le_refl _)).mono hz2))
        clear ND hX
        go_wp2_with fail
        go_ret
        exact ⟨none, 0, [], rfl, GL.none_ _, HB3.out⟩
      · obtain ⟨m, hm⟩ : ∃ m, cms.length = m := ⟨_, rfl⟩
        have HC := Lib.hid (And.intro hO.rd (And.intro hbare (And.intro hm h64)))
        have h64m : m ≤ 64 := by omega
        rw [hm]
        clear hO hbare h64 hm
        go_wp2_with fail
        refine ND.out.mono ?_
        rintro e w3 ⟨q, Φ', rfl, hq, hX, hE⟩
        have HD := Lib.hid (And.intro hX hE)
        have hz3 : w2.heap.size ≤ w3.heap.size := hE.size
        clear ND hX hE
        go_wp2_with fail
        go_loopw [43] (fun iv wr => ∃ (k : Nat) (Φ : Who) (a : Dq), k ≤ m ∧ iv = .int .i64 k ∧ DX Φ w2.heap.size wr q a ∧ Nu Φ wr ∧ Below w2.heap.size w2 wr) (fun iv _ => m - (intOf iv).toNat)
        case atStart => exact ⟨0, Φ', _, Nat.zero_le _, rfl, HD.out.1, HD.out.2.nu, HD.out.2.below (Nat.le_refl _)⟩
        case round =>
          obtain ⟨k, Φ, a, hk, rfl, hX, hN, hb⟩ := hrel
          generalize wr = wx at *
          clear HD
          by_cases hkm : k < m
          · have hkmI : (k : Int) < m := by omega
            obtain ⟨x, hx⟩ : ∃ x, cms[k]? = some x := ⟨_, List.getElem?_eq_getElem (by rw [HC.out.2.2.1]; exact hkm)⟩
            have hxb := HC.out.2.1 x (List.mem_of_getElem? hx)
            obtain ⟨g, o, rfl, -, hc⟩ := HC.out.1.below hb (by
              intro e
              have h1 := cmsC_len cms
              rw [e, HC.out.2.2.1] at h1
              simp at h1
              omega)
            have c0 := hc _ _ (cmsC_at hx (j := 0) rfl)
            have c1' := hc _ _ (cmsC_at hx (j := 1) rfl)
            have c2 := hc _ _ (cmsC_at hx (j := 2) rfl)
            have c3 := hc _ _ (cmsC_at hx (j := 3) rfl)
            have c4 := hc _ _ (cmsC_at hx (j := 4) rfl)
            have c5 := hc _ _ (cmsC_at hx (j := 5) rfl)
            have c6 := hc _ _ (cmsC_at hx (j := 6) rfl)
            have c7 := hc _ _ (cmsC_at hx (j := 7) rfl)
            simp only [← Nat.add_assoc, Nat.add_zero] at c0 c1' c2 c3 c4 c5 c6 c7
            have b1 := bl1 wx (.cells x.cs.toArray 35)
            have DO := Lib.hid (do_any (hX.below b1) (hN.below b1) x hxb.1 [] (by rw [hxb.2.2.1]; rfl) (by rw [hxb.2.2.1]; decide) Rd.nil)
            have BX := (Blk.new wx 35 x.cs.toArray).cell
            have HB3 := Lib.hid (And.intro hb (And.intro b1 hN))
            clear hx hc hxb b1 hX
            obtain ⟨k0, a0, a1, a2, a3, a4, v, bA, bn, bc⟩ := x
            simp only at c0 c1' c2 c3 c4 c5 c6 c7
            go_wp2_with fail
            refine DO.out.mono ?_
            obtain ⟨Ra, hRa⟩ : ∃ Ra, doX a ⟨k0, a0, a1, a2, a3, a4, v, bA, bn, bc⟩ = Ra := ⟨_, rfl⟩
            rw [hRa]
            rintro e w4 ⟨V, cv, Φ2, rfl, -, hX4, hE4⟩
            have hb4 : Below w2.heap.size w2 w4 := HB3.out.1.trans ((HB3.out.2.1.mono HB3.out.1.size).trans (hE4.below (Nat.le_trans HB3.out.1.size HB3.out.2.1.size)))
            obtain ⟨E, hEE⟩ : ∃ E, Ra.2.2 = E := ⟨_, rfl⟩
            rw [hEE]
            have HF := Lib.hid (And.intro hX4 (And.intro hE4.nu hb4))
            clear hX4 hE4 hb4 DO BX c0 c1' c2 c3 c4 c5 c6 c7 HB3 hRa hEE hb hN
            by_cases hE0 : E = 0
            · subst hE0
              go_wp2_with fail
              go_roundw
              case rel => exact ⟨k + 1, Φ2, _, by omega, by go_num, HF.out⟩
              case measure => simp [intOf]; omega
            · have hEb : (E == 0) = false := by simpa using hE0
              go_wp2_with fail
              go_ret
              exact ⟨none, 0, [], rfl, GL.none_ _, HB2.out.trans (HF.out.2.2.mono hz2)⟩
          · obtain rfl : k = m := by omega
            have LS := Lib.hid (lists_any hX)
            have HF := Lib.hid (And.intro hX.1 hb)
            clear hX hN hb hkm
            go_wp2_with fail
            refine LS.out.mono ?_
            rintro e w5 ⟨A5, c5, cl5, rfl, hab, hOL, hb5⟩
            have HG := Lib.hid (And.intro (GL.of_daq HF.out.1 hab hOL.rl (fun g hg => (hOL.row.lt hg).2)) (HB2.out.trans ((HF.out.2.trans (hb5.mono HF.out.2.size)).mono hz2)))
            clear hab hOL hb5 LS
            go_wp2_with fail
            go_ret
            exact ⟨A5, c5, cl5, rfl, HG.out⟩
end Go.Proofs.Yteecgdbicokgoaa
