/- split: may lists be laid (whatever is told). -/
import Derived.Test.YteecgdbicokgoaaG0
namespace Go.Proofs.Yteecgdbicokgoaa
open Go.RowKit
set_option linter.unusedVariables false
set_option linter.unusedSimpArgs false
set_option maxRecDepth 100000
def BoolP (w : World) (e : Ending) (w' : World) : Prop := ∃ b, e = .returned (.bool b) ∧ Below w.heap.size w w'
set_option maxHeartbeats 2000000 in
theorem table_any {w : World} {A : Option Addr} {n c : Nat} {es : List En} (hl : es.length = n) (h7 : n ≤ 7) (hr : Rd w w.heap.size A (ecells es)) : Calls Try.prog 90 #[.slice A n c] w (BoolP w) := by
  have HX := Lib.hid (And.intro hl hr)
  clear hl hr
  go_enter Try.func90, Try.ntmps90
  go_wp2_with fail
  go_loopw [3, 8] (fun sv iv wr => ∃ (k : Nat) (S : Int), k ≤ n ∧ sv = .int .i64 S ∧ iv = .int .i64 k ∧ Below w.heap.size w wr) (fun _ iv _ => n - (intOf iv).toNat)
  case atStart => exact ⟨0, 0, Nat.zero_le _, rfl, rfl, Below.refl _ _⟩
  case round =>
    obtain ⟨k, S, hk, rfl, rfl, hb⟩ := hrel
    by_cases hlt : k < n
    · have hltI : (k : Int) < n := by omega
      obtain ⟨t, ht⟩ : ∃ t, es[k]? = some t := ⟨_, List.getElem?_eq_getElem (by rw [HX.out.1]; exact hlt)⟩
      obtain ⟨g, o, rfl, -, hc⟩ := HX.out.2.below hb (by
        intro h
        have h1 := ecells_len es
        rw [h, HX.out.1] at h1
        simp at h1
        omega)
      have e0 := hc _ _ (ecells_at ht (j := 0) rfl)
      have e1 := hc _ _ (ecells_at ht (j := 1) rfl)
      have e2 := hc _ _ (ecells_at ht (j := 2) rfl)
      rw [← Nat.add_assoc] at e0 e1 e2
      rw [Nat.add_zero] at e0
      have b1 := bl1 wr (.cells t.cs.toArray 76)
      have BZ := (Blk.new wr 76 t.cs.toArray).cell
      have HB := Lib.hid (hb.trans (b1.mono hb.size))
      clear ht hc hb b1
      obtain ⟨z, ar, pl⟩ := t
      simp only at e0 e1 e2
      obtain ⟨zb, hzb⟩ : ∃ zb, (z == 0) = zb := ⟨_, rfl⟩
      cases zb
      · go_wp2_with fail
        go_roundw
        case rel => exact ⟨k + 1, _, by omega, rfl, by go_num, HB.out⟩
        case measure => simp [intOf]; omega
      · go_wp2_with fail
        go_ret
        exact ⟨_, rfl, HB.out⟩
    · obtain rfl : k = n := by omega
      have HB := Lib.hid hb
      clear hb
      by_cases h1 : 1 ≤ k
      · have h1I : (1 : Int) ≤ k := by omega
        have h7I : (k : Int) ≤ 7 := by omega
        obtain ⟨sb, hsb⟩ : ∃ sb, decide (S ≤ 7) = sb := ⟨_, rfl⟩
        cases sb
        · go_wp2_with fail
          go_ret
          exact ⟨_, rfl, HB.out⟩
        · go_wp2_with fail
          go_ret
          exact ⟨_, rfl, HB.out⟩
      · have h1I : ¬ (1 : Int) ≤ k := by omega
        have h1d : decide ((1 : Int) ≤ k) = false := decide_eq_false h1I
        go_wp2_with fail
        go_ret
        exact ⟨_, rfl, HB.out⟩
theorem tabno_any {w : World} {A : Option Addr} {n c : Nat} {es : List En} (hl : es.length = n) (h7 : n ≤ 7) (hr : Rd w w.heap.size A (ecells es)) : Calls Try.prog 89 #[.slice A n c] w (BoolP w) := by
  have C := Lib.hid (table_any (c := c) hl h7 hr)
  clear hl hr
  go_enter Try.func89, Try.ntmps89
  go_wp2_with fail
  refine C.out.mono ?_
  rintro e w' ⟨b, rfl, hb⟩
  go_wp2_with fail
  go_ret
  exact ⟨_, rfl, hb⟩
/-- Tables that read so, each of at most 7 entries. -/
def RT (w : World) (ts : List Tb) : Prop := ∀ t ∈ ts, t.es.length ≤ 7 ∧ Rd w w.heap.size t.A (ecells t.es)
theorem RT.below {w w' : World} {ts : List Tb} (h : RT w ts) (hb : Below w.heap.size w w') : RT w' ts := fun t ht => ⟨(h t ht).1, (h t ht).2.bel hb⟩
set_option maxHeartbeats 2000000 in
theorem idxT_any {w : World} {A : Option Addr} {n c : Nat} {ts : List Tb} (hl : ts.length = n) (hr : Rd w w.heap.size A (tcells ts)) (hR : RT w ts) (hn : n ≤ 1000) : Calls Try.prog 117 #[.slice A n c, .func (.func 89) #[] #[]] w fun e w' => ∃ i : Int, e = .returned (.int .i64 i) ∧ Below w.heap.size w w' := by
  have HX := Lib.hid (And.intro hl (And.intro hr hR))
  clear hl hr hR
  go_enter Try.func117, Try.ntmps117
  go_wp2_with fail
  go_loopw [8] (fun i wr => ∃ k : Nat, k ≤ n ∧ i = .int .i64 k ∧ Below w.heap.size w wr) (fun i _ => n - (intOf i).toNat)
  case atStart => exact ⟨0, Nat.zero_le _, rfl, Below.refl _ _⟩
  case round =>
    obtain ⟨k, hk, rfl, hb⟩ := hrel
    by_cases hlt : k < n
    · have hlt' : (k : Int) < n := by omega
      obtain ⟨t, ht⟩ : ∃ t, ts[k]? = some t := ⟨_, List.getElem?_eq_getElem (by rw [HX.out.1]; exact hlt)⟩
      obtain ⟨b, o, rfl, -, hc⟩ := HX.out.2.1.below hb (by intro h; have h2 := tcells_len ts; rw [h, HX.out.1] at h2; simp at h2; omega)
      have q0 := hc _ _ (tcells_at ht)
      have hR := HX.out.2.2.below hb t (List.mem_of_getElem? ht)
      obtain ⟨m, hm⟩ : ∃ m, t.es.length = m := ⟨_, rfl⟩
      rw [hm] at q0 hR
      have C := Lib.hid (tabno_any (c := t.c) hm hR.1 hR.2)
      have HB := Lib.hid hb
      clear ht hc hb hR hm
      go_wp2_with fail
      refine C.out.mono ?_
      rintro e w1 ⟨b1, rfl, hb1⟩
      have HB1 := Lib.hid (HB.out.trans (hb1.mono HB.out.size))
      clear hb1
      cases b1
      · go_wp2_with fail
        go_roundw
        case rel => exact ⟨k + 1, by omega, by go_num, HB1.out⟩
        case measure => simp [intOf]; omega
      · go_wp2_with fail
        go_ret
        exact ⟨k, rfl, HB1.out⟩
    · obtain rfl : k = n := by omega
      have HB := Lib.hid hb
      clear hb
      go_wp2_with fail
      go_ret
      exact ⟨-1, rfl, HB.out⟩
theorem hasT_any {w : World} {A : Option Addr} {n c : Nat} {ts : List Tb} (hl : ts.length = n) (hr : Rd w w.heap.size A (tcells ts)) (hR : RT w ts) (hn : n ≤ 1000) : Calls Try.prog 88 #[.slice A n c, .func (.func 89) #[] #[]] w (BoolP w) := by
  have C := Lib.hid (idxT_any (c := c) hl hr hR hn)
  clear hl hr hR
  go_enter Try.func88, Try.ntmps88
  go_wp2_with fail
  refine C.out.mono ?_
  rintro e w' ⟨i, rfl, hb⟩
  go_wp2_with fail
  go_ret
  exact ⟨_, rfl, hb⟩
/-- Lists that may be looked at whole. -/
structure RS (w : World) (A : Option Addr) (cl : List Lc) : Prop where
  row : Rd w w.heap.size A (lcells cl)
  tab : ∀ x ∈ cl, x.tabs.length ≤ 16 ∧ Rd w w.heap.size x.A (tcells x.tabs) ∧ RT w x.tabs
theorem RS.below {w w' : World} {A : Option Addr} {cl : List Lc} (h : RS w A cl) (hb : Below w.heap.size w w') : RS w' A cl := ⟨h.row.bel hb, fun x hx => ⟨(h.tab x hx).1, (h.tab x hx).2.1.bel hb, (h.tab x hx).2.2.below hb⟩⟩
set_option maxHeartbeats 4000000 in
theorem lmay_any {w : World} {A : Option Addr} {n c : Nat} {cl : List Lc} (hl : cl.length = n) (hR : RS w A cl) (hn : n ≤ 1000) : Calls Try.prog 63 #[.slice A n c] w (BoolP w) := by
  have HX := Lib.hid (And.intro hl hR)
  clear hl hR
  go_enter Try.func63, Try.ntmps63
  go_wp2_with fail
  go_loopw [3, 8] (fun sv iv wr => ∃ (k : Nat) (S : Int), k ≤ n ∧ sv = .int .i64 S ∧ iv = .int .i64 k ∧ Below w.heap.size w wr) (fun _ iv _ => n - (intOf iv).toNat)
  case atStart => exact ⟨0, 0, Nat.zero_le _, rfl, rfl, Below.refl _ _⟩
  case round =>
    obtain ⟨k, S, hk, rfl, rfl, hb⟩ := hrel
    by_cases hlt : k < n
    · have hltI : (k : Int) < n := by omega
      obtain ⟨x, hx⟩ : ∃ x, cl[k]? = some x := ⟨_, List.getElem?_eq_getElem (by rw [HX.out.1]; exact hlt)⟩
      have hS := HX.out.2.below hb
      obtain ⟨g, o, rfl, -, hc⟩ := hS.row (by
        intro e
        have h1 := lcells_len cl
        rw [e, HX.out.1] at h1
        simp at h1
        omega)
      have hxt := hS.tab x (List.mem_of_getElem? hx)
      have c0 := hc _ _ (lcells_at hx (j := 0) rfl)
      have c1' := hc _ _ (lcells_at hx (j := 1) rfl)
      have c2 := hc _ _ (lcells_at hx (j := 2) rfl)
      have c3 := hc _ _ (lcells_at hx (j := 3) rfl)
      have c4 := hc _ _ (lcells_at hx (j := 4) rfl)
      have c5 := hc _ _ (lcells_at hx (j := 5) rfl)
      have c6 := hc _ _ (lcells_at hx (j := 6) rfl)
      have c7 := hc _ _ (lcells_at hx (j := 7) rfl)
      simp only [← Nat.add_assoc, Nat.add_zero] at c0 c1' c2 c3 c4 c5 c6 c7
      obtain ⟨T, hT⟩ : ∃ T, x.tabs.length = T := ⟨_, rfl⟩
      obtain ⟨xA, xc, tabs, first, stim, ev, pre, pri, on, ch⟩ := x
      simp only at c0 c1' c2 c3 c4 c5 c6 c7 hT hxt
      rw [hT] at c1' hxt
      have b1 := bl1 wr (.cells #[.int .i64 first, .slice xA T xc, .bool stim, .int .u8 ev, .int .u8 pre, .int .u8 pri, .bool on, .bool ch] 71)
      have BX := Blk.new wr 71 #[.int .i64 first, .slice xA T xc, .bool stim, .int .u8 ev, .int .u8 pre, .int .u8 pri, .bool on, .bool ch]
      have cx := BX.cell
      have HT := Lib.hid (hasT_any (c := xc) hT (hxt.2.1.bel b1) (hxt.2.2.below b1) (by omega))
      have HB := Lib.hid (And.intro (hb.trans (b1.mono hb.size)) BX)
      have hT16 := hxt.1
      clear hc hx hS hxt hb b1 BX hT
      obtain ⟨pb, hpb⟩ : ∃ pb, (pre == 0) = pb := ⟨_, rfl⟩
      cases pb
      · by_cases hT0 : T = 0
        · subst hT0
          go_wp2_with fail
          go_ret
          exact ⟨_, rfl, HB.out.1⟩
        · have hTI : ((T : Int) == 0) = false := by simp; omega
          go_wp2_with fail
          refine HT.out.mono ?_
          rintro e w1 ⟨bb, rfl, hb1⟩
          have HB1 := Lib.hid (HB.out.1.trans (hb1.mono HB.out.1.size))
          have cx1 := (HB.out.2.below hb1).cell
          clear hb1 cx
          cases bb
          · go_wp2_with fail
            go_roundw
            case rel => exact ⟨k + 1, _, by omega, rfl, by go_num, HB1.out⟩
            case measure => simp [intOf]; omega
          · go_wp2_with fail
            go_ret
            exact ⟨_, rfl, HB1.out⟩
      · go_wp2_with fail
        go_ret
        exact ⟨_, rfl, HB.out.1⟩
    · obtain rfl : k = n := by omega
      have HB := Lib.hid hb
      clear hb
      by_cases h1 : 1 ≤ k
      · have h1I : (1 : Int) ≤ k := by omega
        by_cases h4 : k ≤ 4
        · have h4I : (k : Int) ≤ 4 := by omega
          obtain ⟨sb, hsb⟩ : ∃ sb, decide (S ≤ 16) = sb := ⟨_, rfl⟩
          cases sb
          · go_wp2_with fail
            go_ret
            exact ⟨_, rfl, HB.out⟩
          · go_wp2_with fail
            go_ret
            exact ⟨_, rfl, HB.out⟩
        · have h4I : ¬ (k : Int) ≤ 4 := by omega
          have h4d : decide ((k : Int) ≤ 4) = false := decide_eq_false h4I
          go_wp2_with fail
          go_ret
          exact ⟨_, rfl, HB.out⟩
      · have h1I : ¬ (1 : Int) ≤ k := by omega
        have h1d : decide ((1 : Int) ≤ k) = false := decide_eq_false h1I
        go_wp2_with fail
        go_ret
        exact ⟨_, rfl, HB.out⟩
end Go.Proofs.Yteecgdbicokgoaa
