/- TopSamples' few: the first 4 lists, of up to 4 tables of up to 7 entries. -/
import Derived.Test.YteecgdbicokgoaaT5
import Derived.Lib.MinMax
namespace Go.Proofs.Yteecgdbicokgoaa
open Go.RowKit
set_option linter.unusedVariables false
set_option linter.unusedSimpArgs false
set_option maxRecDepth 100000
/-- Lists that came in. -/
structure RI (w : World) (A : Option Addr) (cl : List Lc) : Prop where
  row : Rd w w.heap.size A (lcells cl)
  tab : ∀ x ∈ cl, Rd w w.heap.size x.A (tcells x.tabs) ∧ x.tabs.length ≤ maxLen
  ent : ∀ x ∈ cl, ∀ t ∈ x.tabs, Rd w w.heap.size t.A (ecells t.es) ∧ (∀ e ∈ t.es, e.wf) ∧ t.es.length ≤ t.c ∧ t.c ≤ maxLen
  num : ∀ x ∈ cl, (0 ≤ x.ev ∧ x.ev < 256) ∧ (0 ≤ x.pre ∧ x.pre < 256) ∧ (0 ≤ x.pri ∧ x.pri < 256)
/-- A table that is small enough. -/
def SmT (w : World) (base : Nat) (t : Tb) : Prop := t.es.length ≤ 7 ∧ Rd w base t.A (ecells t.es) ∧ ∀ e ∈ t.es, e.wf
theorem SmT.below {w w' : World} {base : Nat} {t : Tb} (h : SmT w base t) (hb : Below base w w') : SmT w' base t := ⟨h.1, h.2.1.below hb, h.2.2⟩
/-- A list of few's. -/
structure FwL (w : World) (base : Nat) (x : Lc) : Prop where
  n : x.tabs.length ≤ 4
  row : Own w base 74 1 x.A x.tabs.length x.c (tcells x.tabs)
  sm : ∀ t ∈ x.tabs, SmT w base t
  num : (0 ≤ x.ev ∧ x.ev < 256) ∧ (0 ≤ x.pre ∧ x.pre < 256) ∧ (0 ≤ x.pri ∧ x.pri < 256)
theorem FwL.below {w w' : World} {base : Nat} {x : Lc} (h : FwL w base x) (hb : Below w.heap.size w w') (hz : base ≤ w.heap.size) : FwL w' base x := ⟨h.n, h.row.below hb, fun t ht => (h.sm t ht).below (hb.mono hz), h.num⟩
structure FwA (w : World) (base : Nat) (A : Option Addr) (c : Nat) (cl : List Lc) : Prop where
  row : Own w base 71 8 A cl.length c (lcells cl)
  all : ∀ x ∈ cl, FwL w base x
  n4 : cl.length ≤ 4
def FewP (w : World) (e : Ending) (w' : World) : Prop := ∃ A c cl, e = .returned (.slice A cl.length c) ∧ FwA w' w.heap.size A c cl ∧ Below w.heap.size w w'
theorem tcells_snoc (l : List Tb) (x : Tb) : tcells (l ++ [x]) = tcells l ++ x.cs := by
  unfold tcells
  rw [flatC_app]
  simp [flatC]
theorem lcells_snoc (l : List Lc) (x : Lc) : lcells (l ++ [x]) = lcells l ++ x.cs := by
  unfold lcells
  rw [flatC_app]
  simp [flatC]
theorem w64_max {k n : Nat} (h : k < n) (hn : n ≤ maxLen) : wrap64 ((k : Int) + 1) = (k : Int) + 1 := by
  have hml : maxLen = 9223372036854775807 := by decide
  rw [hml] at hn
  exact IntWalk.wrap64_in _ ⟨by omega, by omega⟩
theorem le_maxI {k n : Nat} (h : k < n) (hn : n ≤ maxLen) : (k : Int) + 1 ≤ 9223372036854775807 := by
  have hml : maxLen = 9223372036854775807 := rfl
  have h1 : k + 1 ≤ 9223372036854775807 := Nat.le_trans h (Nat.le_trans hn (Nat.le_of_eq hml))
  clear hn hml h
  omega
theorem meas_lt4 {n k : Nat} (h : k < n) : n - ((k : Int) + 1).toNat < n - ((k : Int)).toNat := by omega
theorem take_le7 (es : List En) (k : Nat) : (es.take k).length = min k es.length := List.length_take
theorem ecells_take (es : List En) (k : Nat) : ecells (es.take k) = (ecells es).take (k * 3) := flatC_take En.cs 3 k es (fun _ _ => rfl)
set_option maxHeartbeats 8000000 in
theorem fewl_any {w : World} {A : Option Addr} {n c : Nat} {cl : List Lc} (hl : cl.length = n) (hn : n ≤ maxLen) (hR : RI w A cl) : Calls Try.prog 19 #[.slice A n c] w (FewP w) := by
  have HX := Lib.hid (And.intro hl hR)
  have HN := Lib.hid hn
  obtain ⟨base, hbase⟩ : ∃ base, w.heap.size = base := ⟨_, rfl⟩
  have HBA := Lib.hid hbase
  clear hl hR hbase hn
  go_enter Try.func19, Try.ntmps19
  go_wp2_with fail
  go_loopw [3, 11] (fun out iv wr => ∃ (i : Nat) (A1 : Option Addr) (c1 : Nat) (m : List Lc), i ≤ n ∧ i ≤ 4 ∧ m.length = i ∧ out = .slice A1 i c1 ∧ iv = .int .i64 i ∧ FwA wr base A1 c1 m ∧ Below base w wr) (fun _ iv _ => n - (intOf iv).toNat)
  case atStart => exact ⟨0, none, 0, [], Nat.zero_le _, Nat.zero_le _, rfl, rfl, rfl, ⟨Own.nil _ _ _ _, (fun x hx => by cases hx), Nat.zero_le _⟩, Below.refl _ _⟩
  case round =>
    obtain ⟨i, A1, c1, m, hi, hi4, hm, rfl, rfl, hF, hb⟩ := hrel
    have hsz : base ≤ wr.heap.size := by have h1 := hb.size; have h2 := HBA.out; omega
    by_cases hlt : i < n
    · have hltI : (i : Int) < n := by omega
      obtain ⟨x, hx⟩ : ∃ x, cl[i]? = some x := ⟨_, List.getElem?_eq_getElem (by rw [HX.out.1]; exact hlt)⟩
      have hxm := List.mem_of_getElem? hx
      have hrow : Rd wr base A (lcells cl) := by
        have := HX.out.2.row
        rw [HBA.out] at this
        exact this.below hb
      obtain ⟨g, o, rfl, -, hc⟩ := hrow (by
        intro e
        have h1 := lcells_len cl
        rw [e, HX.out.1] at h1
        simp at h1
        omega)
      have c0 := hc _ _ (lcells_at hx (j := 0) rfl)
      have c1' := hc _ _ (lcells_at hx (j := 1) rfl)
      have c2 := hc _ _ (lcells_at hx (j := 2) rfl)
      have c3 := hc _ _ (lcells_at hx (j := 3) rfl)
      have c4 := hc _ _ (lcells_at hx (j := 4) rfl)
      have c5 := hc _ _ (lcells_at hx (j := 5) rfl)
      have c6 := hc _ _ (lcells_at hx (j := 6) rfl)
      have c7 := hc _ _ (lcells_at hx (j := 7) rfl)
      simp only [← Nat.add_assoc, Nat.add_zero] at c0 c1' c2 c3 c4 c5 c6 c7
      obtain ⟨T, hT⟩ : ∃ T, x.tabs.length = T := ⟨_, rfl⟩
      have htab := HX.out.2.tab x hxm
      have hent := HX.out.2.ent x hxm
      have hnum := HX.out.2.num x hxm
      rw [HBA.out] at htab hent
      obtain ⟨xA, xc, tabs, first, stim, ev, pre, pri, on, ch⟩ := x
      simp only at c0 c1' c2 c3 c4 c5 c6 c7 hT htab hent hnum
      rw [hT] at c1' htab
      have b1 := bl1 wr (.cells #[.int .i64 first, .slice xA T xc, .bool stim, .int .u8 ev, .int .u8 pre, .int .u8 pri, .bool on, .bool ch] 71)
      have BX := Blk.new wr 71 #[.int .i64 first, .slice xA T xc, .bool stim, .int .u8 ev, .int .u8 pre, .int .u8 pri, .bool on, .bool ch]
      have cx := BX.cell
      have HI := Lib.hid (And.intro hF (And.intro hb (And.intro b1 BX)))
      have HT := Lib.hid (And.intro hT (And.intro htab (And.intro hent (And.intro hnum hm))))
      clear hx hxm hrow hc hT htab hent hnum hF hb b1 BX hm
      by_cases h4 : i < 4
      · have hlt4 : i < 4 := h4
        have h4I : (i : Int) < 4 := by omega
        have h4J : ¬ (4 : Int) ≤ i := by omega
        go_wp2_with fail
        clear c0 c1' c2 c3 c4 c5 c6 c7 cx
        obtain ⟨gx, hgx⟩ : ∃ gx, wr.heap.size = gx := ⟨_, rfl⟩
        try rw [hgx]
        have HGX := Lib.hid hgx
        have hszx : base ≤ gx := by omega
        clear hgx
        generalize wr = wo at *
        go_loopw [6, 21] (fun tv kv wx => ∃ (k : Nat) (A2 : Option Addr) (c2 : Nat) (ts : List Tb), k ≤ T ∧ kv = .int .i64 k ∧ tv = .slice A2 ts.length c2 ∧ Own wx (gx + 1) 74 1 A2 ts.length c2 (tcells ts) ∧ ts.length ≤ 4 ∧ ts.length ≤ k ∧ (∀ t ∈ ts, SmT w base t) ∧ Below (gx + 1) (wo.alloc (.cells #[.int .i64 first, .slice xA T xc, .bool stim, .int .u8 ev, .int .u8 pre, .int .u8 pri, .bool on, .bool ch] 71)) wx) (fun _ kv _ => T - (intOf kv).toNat)
        case atStart => exact ⟨0, none, 0, [], Nat.zero_le _, rfl, rfl, Own.nil _ _ _ _, Nat.zero_le _, Nat.le_refl _, (fun t ht => by cases ht), Below.refl _ _⟩
        case round =>
          obtain ⟨k, A2, c2, ts, hk, rfl, rfl, hO, hn4, hnk, hsm, hb⟩ := hrel
          generalize wr = wx at *
          obtain ⟨q, hq⟩ : ∃ q, ts.length = q := ⟨_, rfl⟩
          rw [hq] at hO hn4 hnk ⊢
          by_cases hkt : k < T
          · have hktI : (k : Int) < T := by omega
            obtain ⟨t, ht⟩ : ∃ t, tabs[k]? = some t := ⟨_, List.getElem?_eq_getElem (by rw [HT.out.1]; exact hkt)⟩
            have hte := HT.out.2.2.1 t (List.mem_of_getElem? ht)
            have hbw : Below base w wx := HI.out.2.1.trans ((HI.out.2.2.1.mono (by rw [HGX.out]; exact hszx)).trans (hb.mono (by omega)))
            obtain ⟨gt, ot, rfl, -, hct⟩ := HT.out.2.1.1.below hbw (by
              intro h
              have h1 := tcells_len tabs
              rw [h, HT.out.1] at h1
              simp at h1
              omega)
            have ck := hct k _ (tcells_at ht)
            obtain ⟨tA, tc, es⟩ := t
            obtain ⟨L, hL⟩ : ∃ L, es.length = L := ⟨_, rfl⟩
            simp only at ck hte
            rw [hL] at ck hte
            have hLc : L ≤ tc := hte.2.2.1
            by_cases hk4 : k < 4
            · have hk4I : (k : Int) < 4 := by omega
              have MK : ∀ K, K ≤ 7 → K ≤ L → (∀ (w8 : World) (A5 : Option Addr) (c5 : Nat), Own w8 (gx + 1) 74 1 A5 (q + 1) c5 (tcells ts ++ [.slice tA K tc]) → (wx.alloc (.cells #[.slice tA K tc] 74)).grownBy w8 (blkOf A2) → ∃ ts' : List Tb, ts'.length = q + 1 ∧ Own w8 (gx + 1) 74 1 A5 (q + 1) c5 (tcells ts') ∧ (∀ t ∈ ts', SmT w base t) ∧ Below (gx + 1) (wo.alloc (.cells #[.int .i64 first, .slice (some ⟨gt, ot, none⟩) T xc, .bool stim, .int .u8 ev, .int .u8 pre, .int .u8 pri, .bool on, .bool ch] 71)) w8) := fun K hK7 hKL w8 A5 c5 ho hg => by
                refine ⟨ts ++ [⟨tA, tc, es.take K⟩], by rw [List.length_append, hq, List.length_singleton], ?_, ?_, ?_⟩
                · rw [tcells_snoc]
                  have hlk : (es.take K).length = K := by rw [List.length_take, hL]; omega
                  simp only [Tb.cs, hlk]
                  exact ho
                · intro t' ht'
                  rcases List.mem_append.1 ht' with h | h
                  · exact hsm t' h
                  · rw [List.mem_singleton.1 h]
                    refine ⟨by simp only [List.length_take]; omega, ?_, fun e he => hte.2.1 e (List.mem_of_mem_take he)⟩
                    simp only [ecells_take]
                    exact hte.1.take _
                · have hzx : gx + 1 ≤ wx.heap.size := by have h1 := hb.size; have h2 := HGX.out; rw [World.size_alloc] at h1; omega
                  have hb2 := hb.trans ((bl1 wx (.cells #[.slice tA K tc] 74)).mono hzx)
                  exact hb2.grown hg (by rw [World.size_alloc]; omega) (fun r hr => (hO.lt hr).1)
              have HM := Lib.hid MK
              have HO := Lib.hid hO
              have hm1 : q + 1 ≤ maxLen := by unfold maxLen; omega
              have hm2 : (q + 1) * 24 ≤ 140737488355328 := by omega
              have hzx : gx + 1 ≤ wx.heap.size := by have h1 := hb.size; have h2 := HGX.out; rw [World.size_alloc] at h1; omega
              have hq4 : q + 1 ≤ 4 := Nat.lt_of_le_of_lt hnk hk4
              have hqk : q + 1 ≤ k + 1 := Nat.succ_le_succ hnk
              clear ht hte hbw hct hL hsm hb hO hnk
              obtain ⟨K, hK7, hKL, hmn⟩ : ∃ K : Nat, K ≤ 7 ∧ K ≤ L ∧ min (L : Int) 7 = (K : Int) := by
                rcases Nat.le_total L 7 with h | h
                · exact ⟨L, h, Nat.le_refl _, by omega⟩
                · exact ⟨7, Nat.le_refl _, h, by omega⟩
              have hKc : (K : Int) ≤ tc := by omega
              have hOa := HO.out.below (bl1 wx (.cells #[.slice tA K tc] 74))
              have hRa := Lib.hid (Blk.rd (cs := [.slice tA K tc]) (Blk.new wx 74 #[.slice tA K tc]))
              have hzz : gx + 1 ≤ (wx.alloc (.cells #[.slice tA K tc] 74)).heap.size := by rw [World.size_alloc]; omega
              have hks := le_maxI hkt HT.out.2.1.2
              go_wp2_with (at_builtin; refine wpList_app _ rfl (.tmp 28) (.tmp 34) 69 rfl (gx + 1) 74 (.slice none 0 0) 1 24 Try.underlying69 info41 rfl (by decide) A2 q c2 _ rfl hOa _ _ 1 1 [.slice tA K tc] rfl rfl hRa.out (by intro u hu; simp at hu; subst hu; rfl) hm1 hm2 hzz ?_; intro A5 c5 w8 ho8 hg8 hbk8)
              obtain ⟨ts', t1, t2, t3, t4⟩ := HM.out K hK7 hKL w8 A5 c5 ho8 hg8
              have HF := Lib.hid (And.intro t1 (And.intro t2 (And.intro t3 t4)))
              have HKS := Lib.hid hks
              clear t1 t2 t3 t4 ho8 hg8 hbk8 hOa hRa hzz HM HO hm1 hm2 hzx hmn hKc hKL hLc hks
              have hks := HKS.out
              go_roundw
              case rel => exact ⟨k + 1, A5, c5, ts', hkt, rfl, by rw [HF.out.1], by rw [HF.out.1]; exact HF.out.2.1, by rw [HF.out.1]; exact hq4, by rw [HF.out.1]; exact hqk, HF.out.2.2.1, HF.out.2.2.2⟩
              case measure =>
                simp only [intOf]
                exact meas_lt4 hkt
            · have hk4I : ¬ (k : Int) < 4 := by omega
              have hks := le_maxI hkt HT.out.2.1.2
              have HF := Lib.hid (And.intro hO (And.intro hn4 (And.intro (Nat.le_succ_of_le hnk) (And.intro hsm hb))))
              have HQ := Lib.hid hq
              clear ht hte hbw hct hL hsm hb hO hnk hq hLc
              go_wp2_with fail
              go_roundw
              case rel => exact ⟨k + 1, A2, c2, ts, hkt, rfl, by rw [HQ.out], by rw [HQ.out]; exact HF.out.1, by rw [HQ.out]; exact HF.out.2.1, by rw [HQ.out]; exact HF.out.2.2.1, HF.out.2.2.2.1, HF.out.2.2.2.2⟩
              case measure =>
                simp only [intOf]
                exact meas_lt4 hkt
          · obtain rfl : k = T := by omega
            have hbx : Blk wx gx 71 #[.int .i64 first, .slice xA k xc, .bool stim, .int .u8 ev, .int .u8 pre, .int .u8 pri, .bool on, .bool ch] := by
              have h1 := HI.out.2.2.2
              rw [HGX.out] at h1
              exact (hb.block gx (by omega)).trans h1
            have hbw : Below gx wo wx := ((HI.out.2.2.1.mono (Nat.le_of_eq HGX.out.symm)).trans (hb.mono (Nat.le_succ _)))
            have HA := Lib.hid (And.intro hO (And.intro hn4 (And.intro hsm (And.intro hbw hq))))
            have hzx : gx + 1 ≤ wx.heap.size := by have h1 := hb.size; have h2 := HGX.out; rw [World.size_alloc] at h1; omega
            have bx := hbx.cell
            have fx := hbx.frozen
            have hbx1 := hbx.set_ 1 (.slice A2 q c2)
            have bx1 := hbx1.cell
            have HBX := Lib.hid hbx1
            obtain ⟨ws, hws⟩ : ∃ ws, wx.setCell ⟨gx, 1, none⟩ (.slice A2 q c2) = ws := ⟨_, rfl⟩
            have hwsz : ws.heap.size = wx.heap.size := by rw [← hws]; simp [World.setCell]
            have hm1 : i + 1 ≤ maxLen := by unfold maxLen; omega
            have hm2 : (i + 1) * 40 ≤ 140737488355328 := by omega
            have hFs : FwA ws base A1 c1 m := by
              have h0 := HI.out.1
              have hb2 : Below wo.heap.size wo ws := by
                rw [← hws]
                exact (hbw.setCell (p := ⟨gx, 1, none⟩) (Nat.le_refl _) _).mono (Nat.le_of_eq HGX.out)
              exact ⟨h0.row.below hb2, fun y hy => (h0.all y hy).below hb2 hsz, h0.n4⟩
            have hbs : Below base w ws := by
              rw [← hws]
              exact (HI.out.2.1.trans (hbw.mono hszx)).setCell (p := ⟨gx, 1, none⟩) hszx _
            have hOs : Own ws (gx + 1) 74 1 A2 q c2 (tcells ts) := by
              rw [← hws]
              exact hO.far (p := ⟨gx, 1, none⟩) (fun e => by have := (hO.lt e).1; simp only at this; omega) _
            have hsms : ∀ t ∈ ts, SmT w base t := hsm
            have b1 := bl1 ws (.cells #[.int .i64 first, .slice A2 q c2, .bool stim, .int .u8 ev, .int .u8 pre, .int .u8 pri, .bool on, .bool ch] 71)
            have hRa := Lib.hid (Blk.rd (cs := [.int .i64 first, .slice A2 q c2, .bool stim, .int .u8 ev, .int .u8 pre, .int .u8 pri, .bool on, .bool ch]) (Blk.new ws 71 #[.int .i64 first, .slice A2 q c2, .bool stim, .int .u8 ev, .int .u8 pre, .int .u8 pri, .bool on, .bool ch]))
            have hOa : Own (ws.alloc (.cells #[.int .i64 first, .slice A2 q c2, .bool stim, .int .u8 ev, .int .u8 pre, .int .u8 pri, .bool on, .bool ch] 71)) base 71 8 A1 i c1 (lcells m) := by
              have := hFs.row.below b1
              rwa [HT.out.2.2.2.2] at this
            have hzz : base ≤ (ws.alloc (.cells #[.int .i64 first, .slice A2 q c2, .bool stim, .int .u8 ev, .int .u8 pre, .int .u8 pri, .bool on, .bool ch] 71)).heap.size := by rw [World.size_alloc, hwsz]; omega
            rw [hws] at bx1
            have HWS := Lib.hid (And.intro hws (And.intro hFs (And.intro hbs (And.intro hOs (And.intro hwsz (And.intro b1 hq))))))
            have HOA := Lib.hid hOa
            clear hO hn4 hnk hsm hb hq hbx hbw hkt hbx1 hwsz hFs hbs hOs b1 HBX hOa
            have hks : wrap64 ((i : Int) + 1) = (i : Int) + 1 := w64_stp hlt4 (by decide)
            go_upto_region 14 with fail
            try rw [hws]
            clear hws bx fx
            go_wp2_with (at_builtin; refine wpList_app _ rfl (.tmp 39) (.tmp 41) 51 rfl base 71 (.agg #[.int .i64 0, .slice none 0 0, .bool false, .int .u8 0, .int .u8 0, .int .u8 0, .bool false, .bool false]) 8 40 Try.underlying51 info40 rfl (by decide) A1 i c1 (lcells m) rfl HOA.out _ _ 1 1 [.int .i64 first, .slice A2 q c2, .bool stim, .int .u8 ev, .int .u8 pre, .int .u8 pri, .bool on, .bool ch] rfl rfl hRa.out (by intro u hu; simp at hu; rcases hu with rfl | rfl | rfl | rfl | rfl | rfl | rfl | rfl <;> rfl) hm1 hm2 hzz ?_; intro A5 c5 w8 ho8 hg8 hbk8)
            obtain ⟨y, hy⟩ : ∃ y : Lc, y = ⟨A2, c2, ts, first, stim, ev, pre, pri, on, ch⟩ := ⟨_, rfl⟩
            have hyc : y.cs = [.int .i64 first, .slice A2 q c2, .bool stim, .int .u8 ev, .int .u8 pre, .int .u8 pri, .bool on, .bool ch] := by rw [hy, ← HWS.out.2.2.2.2.2.2]
            have hml : (m ++ [y]).length = i + 1 := by rw [List.length_append, HT.out.2.2.2.2, List.length_singleton]
            have R : Hid (FwA w8 base A5 c5 (m ++ [y]) ∧ Below base w w8) := Lib.hid (by
              obtain ⟨f1, f2, f3, f4, f5, f6, f7⟩ := HWS.out
              have hsz8 : base ≤ ws.heap.size := by rw [f5]; omega
              have keyT : ∀ {A9 : Option Addr} {n9 c9 b9 : Nat} {v9 : List Value}, Own ws b9 74 1 A9 n9 c9 v9 → Own w8 b9 74 1 A9 n9 c9 v9 := fun h9 => (h9.below f6).grown hg8 (own_own_ne (h9.below f6) HOA.out (by decide))
              have hb8 : Below base ws w8 := (f6.mono hsz8).grown hg8 hzz (fun r hr => (HOA.out.lt hr).1)
              refine ⟨⟨?_, fun z hz => ?_, ?_⟩, f3.trans (hb8.mono (Nat.le_refl _))⟩
              · rw [hml, lcells_snoc, hyc]
                exact ho8
              · rcases List.mem_append.1 hz with hz | hz
                · have h0 := f2.all z hz
                  exact ⟨h0.n, keyT h0.row, fun t ht => (h0.sm t ht).below hb8, h0.num⟩
                · rw [List.mem_singleton.1 hz, hy]
                  have h4' := HA.out.2.1
                  refine ⟨by rw [f7]; exact h4', ?_, fun t ht => ?_, HT.out.2.2.2.1⟩
                  · simp only [f7]
                    exact keyT (f4.more (Nat.le_succ_of_le hszx))
                  · have h1 := HA.out.2.2.1 t ht
                    have h2 : Below base w w8 := f3.trans hb8
                    have h3 := HWS.out.2.2.1
                    exact h1.below h2
              · rw [hml]; omega)
            have HKS := Lib.hid hks
            clear ho8 hg8 hbk8 HWS HOA hRa hzz hm1 hm2 hks HA
            have hks := HKS.out
            go_roundw
            case rel => exact ⟨i + 1, A5, c5, m ++ [y], hlt, hlt4, hml, rfl, by first | rfl | (rw [hks]; rfl), R.out⟩
            case measure =>
              try rw [hks]
              simp only [intOf]
              exact meas_lt4 hlt
      · have h4I : (4 : Int) ≤ i := by omega
        have HG := Lib.hid (HI.out.2.1.trans (HI.out.2.2.1.mono hsz))
        have HM : Hid (m.length = i) := Lib.hid HT.out.2.2.2.2
        have HF := Lib.hid (HI.out.1)
        have hwb := HBA.out
        go_wp2_with fail
        go_ret
        refine ⟨A1, c1, m, by rw [HM.out]; rfl, ?_, by rw [hwb]; exact HG.out⟩
        rw [hwb]
        have h1 := HF.out
        have hb2 := HI.out.2.2.1
        exact ⟨h1.row.below hb2, fun y hy => (h1.all y hy).below hb2 hsz, h1.n4⟩
    · obtain rfl : i = n := by omega
      have HF := Lib.hid (And.intro hF (And.intro hb hm))
      have hwb := HBA.out
      clear hF hb hm hlt
      go_wp2_with fail
      go_ret
      exact ⟨A1, c1, m, by rw [HF.out.2.2]; rfl, by rw [hwb]; exact HF.out.1, by rw [hwb]; exact HF.out.2.1⟩
end Go.Proofs.Yteecgdbicokgoaa
