/- split.each. -/
import Derived.Test.YteecgdbicokgoaaT4
namespace Go.Proofs.Yteecgdbicokgoaa
open Go.RowKit
set_option linter.unusedVariables false
set_option linter.unusedSimpArgs false
set_option maxRecDepth 100000
/-- Lists that may be laid: all that is read of them lies below base. -/
structure RSb (w : World) (base : Nat) (A : Option Addr) (cl : List Lc) : Prop where
  row : Rd w base A (lcells cl)
  tab : ∀ x ∈ cl, x.tabs.length ≤ 4 ∧ Rd w base x.A (tcells x.tabs)
  ent : ∀ x ∈ cl, ∀ t ∈ x.tabs, t.es.length ≤ 7 ∧ Rd w base t.A (ecells t.es) ∧ ∀ e ∈ t.es, e.wf
  num : ∀ x ∈ cl, (0 ≤ x.ev ∧ x.ev < 256) ∧ (0 ≤ x.pre ∧ x.pre < 256) ∧ (0 ≤ x.pri ∧ x.pri < 256)
  n4 : cl.length ≤ 4
theorem RSb.below {w w' : World} {base : Nat} {A : Option Addr} {cl : List Lc} (h : RSb w base A cl) (hb : Below base w w') : RSb w' base A cl :=
  ⟨h.row.below hb, fun x hx => ⟨(h.tab x hx).1, (h.tab x hx).2.below hb⟩, fun x hx t ht => ⟨(h.ent x hx t ht).1, (h.ent x hx t ht).2.1.below hb, (h.ent x hx t ht).2.2⟩, h.num, h.n4⟩
theorem RSb.rs {w : World} {base : Nat} {A : Option Addr} {cl : List Lc} (h : RSb w base A cl) (hb : base ≤ w.heap.size) : RS w A cl :=
  ⟨h.row.more hb, fun x hx => ⟨by have := (h.tab x hx).1; omega, (h.tab x hx).2.more hb, fun t ht => ⟨(h.ent x hx t ht).1, (h.ent x hx t ht).2.1.more hb⟩⟩⟩
theorem fT_le {cl : List Lc} (h : ∀ x ∈ cl, x.tabs.length ≤ 4) (i : Nat) : fT cl i ≤ 4 * i := by
  induction i with
  | zero => rw [fT_zero]; omega
  | succ i ih =>
    cases hx : cl[i]? with
    | none =>
      unfold fT at ih ⊢
      rw [List.take_add_one, hx]
      simp only [Option.toList, List.append_nil]
      omega
    | some x =>
      rw [fT_succ hx]
      have := h x (List.mem_of_getElem? hx)
      omega
set_option maxHeartbeats 4000000 in
theorem each65_any {base go N : Nat} {w : World} (h : LS base go N w) (hN : N ≤ 800) (hbase : base ≤ w.heap.size) {A : Option Addr} {n c : Nat} {cl : List Lc} (hl : cl.length = n) (hR : RSb w base A cl) :
    Calls Try.prog 64 #[.slice A n c, .func (.func 65) #[] #[.pointer (some ⟨go, 0, none⟩)]] w fun e w' => e = .returned (.tuple #[]) ∧ LS base go (N + 1 * fT cl n) w' ∧ ChT base [36, 35] w w' := by
  have hn4 : n ≤ 4 := by rw [← hl]; exact hR.n4
  have HX := Lib.hid (And.intro hl (And.intro hR h))
  clear hl hR h
  go_enter Try.func64, Try.ntmps64
  go_wp2_with fail
  go_loopw [10] (fun iv wr => ∃ i : Nat, i ≤ n ∧ iv = .int .i64 i ∧ LS base go (N + 1 * fT cl i) wr ∧ ChT base [36, 35] w wr) (fun iv _ => n - (intOf iv).toNat)
  case atStart => exact ⟨0, Nat.zero_le _, rfl, by rw [fT_zero]; exact HX.out.2.2, ChT.refl _ _ _⟩
  case round =>
    obtain ⟨i, hi, rfl, hLS, hC⟩ := hrel
    by_cases hlt : i < n
    · have hltI : (i : Int) < n := by omega
      obtain ⟨x, hx⟩ : ∃ x, cl[i]? = some x := ⟨_, List.getElem?_eq_getElem (by rw [HX.out.1]; exact hlt)⟩
      have hxm := List.mem_of_getElem? hx
      have hS := HX.out.2.1.below (hC.below hbase)
      obtain ⟨g, o, rfl, -, hc⟩ := hS.row (by
        intro e
        have h1 := lcells_len cl
        rw [e, HX.out.1] at h1
        simp at h1
        omega)
      have hxt := hS.tab x hxm
      have hxe := hS.ent x hxm
      have c0 := hc _ _ (lcells_at hx (j := 0) rfl)
      have c1' := hc _ _ (lcells_at hx (j := 1) rfl)
      have c2 := hc _ _ (lcells_at hx (j := 2) rfl)
      have c3 := hc _ _ (lcells_at hx (j := 3) rfl)
      have c4 := hc _ _ (lcells_at hx (j := 4) rfl)
      have c5 := hc _ _ (lcells_at hx (j := 5) rfl)
      have c6 := hc _ _ (lcells_at hx (j := 6) rfl)
      have c7 := hc _ _ (lcells_at hx (j := 7) rfl)
      simp only [← Nat.add_assoc, Nat.add_zero] at c0 c1' c2 c3 c4 c5 c6 c7
      obtain ⟨T, hT⟩ : ∃ T, x.tabs.length = T := ⟨_, rfl⟩
      have hfs : fT cl (i + 1) = fT cl i + T := by rw [fT_succ hx, hT]
      have hf4 : fT cl i ≤ 4 * i := fT_le (fun y hy => (HX.out.2.1.tab y hy).1) i
      obtain ⟨F, hF⟩ : ∃ F, fT cl i = F := ⟨_, rfl⟩
      rw [hF] at hLS hfs hf4
      obtain ⟨xA, xc, tabs, first, stim, ev, pre, pri, on, ch⟩ := x
      simp only at c0 c1' c2 c3 c4 c5 c6 c7 hT hxt hxe
      rw [hT] at c1' hxt
      have b1 := bl1 wr (.cells #[.int .i64 first, .slice xA T xc, .bool stim, .int .u8 ev, .int .u8 pre, .int .u8 pri, .bool on, .bool ch] 71)
      have cx := (Blk.new wr 71 #[.int .i64 first, .slice xA T xc, .bool stim, .int .u8 ev, .int .u8 pre, .int .u8 pri, .bool on, .bool ch]).cell
      have HB := Lib.hid (And.intro (hLS.below b1) (hC.grow b1))
      have hbz : Below base w (wr.alloc (.cells #[.int .i64 first, .slice xA T xc, .bool stim, .int .u8 ev, .int .u8 pre, .int .u8 pri, .bool on, .bool ch] 71)) := (hC.grow b1).below hbase
      have HT := Lib.hid (And.intro hT (And.intro (HX.out.2.1.tab _ hxm).2 (And.intro (HX.out.2.1.ent _ hxm) hfs)))
      have hT4 := hxt.1
      have hiw : IntKind.u8.wrap (i : Int) = i := IntWalk.u8_in _ (by omega)
      clear hc hx hS hxt hxe hLS hC b1 hT hfs hF hbz hxm
      go_wp2_with fail
      clear c0 c1' c2 c3 c4 c5 c6 c7 cx
      refine wp_named fun W hW => ?_
      rw [← hW] at HB
      clear hW
      generalize wr = wo at *
      go_loopw [18] (fun kv wr => ∃ k : Nat, k ≤ T ∧ kv = .int .i64 k ∧ LS base go (N + 1 * (F + k)) wr ∧ ChT base [36, 35] w wr) (fun kv _ => T - (intOf kv).toNat)
      case atStart => exact ⟨0, Nat.zero_le _, rfl, HB.out⟩
      case round =>
        obtain ⟨k, hk, rfl, hLS, hC⟩ := hrel
        clear HB
        by_cases hkt : k < T
        · have hktI : (k : Int) < T := by omega
          obtain ⟨t, ht⟩ : ∃ t, tabs[k]? = some t := ⟨_, List.getElem?_eq_getElem (by rw [HT.out.1]; exact hkt)⟩
          have hte := HT.out.2.2.1 t (List.mem_of_getElem? ht)
          have hbw := hC.below hbase
          obtain ⟨gt, ot, rfl, -, hct⟩ := (HT.out.2.1.below hbw) (by
            intro h
            have h1 := tcells_len tabs
            rw [h, HT.out.1] at h1
            simp at h1
            omega)
          have ck := hct k _ (tcells_at ht)
          obtain ⟨m, hm⟩ : ∃ m, t.es.length = m := ⟨_, rfl⟩
          rw [hm] at ck hte
          have hkw : IntKind.u8.wrap (k : Int) = k := IntWalk.u8_in _ (by omega)
          have C := Lib.hid (lay1_any (A := t.A) (n := m) (c := t.c) hLS (by omega) (Nat.le_trans hbase hC.size) (i := i) (k := k) (by omega) (by omega) hte.1)
          have HC := Lib.hid hC
          clear ht hte hbw hct hm hLS hC
          go_wp2_with fail
          refine C.out.mono ?_
          rintro e w2 ⟨rfl, hL2, hC2⟩
          have hs : N + 1 * (F + k) + 1 = N + 1 * (F + (k + 1)) := by omega
          rw [hs] at hL2
          have HF := Lib.hid (And.intro hL2 (HC.out.trans hC2))
          clear hL2 hC2 hs hkw
          go_wp2_with fail
          go_roundw
          case rel => exact ⟨k + 1, by omega, by go_num, HF.out⟩
          case measure => simp [intOf]; omega
        · obtain rfl : k = T := by omega
          have HF := Lib.hid (And.intro hLS hC)
          clear hLS hC
          go_wp2_with fail
          go_roundw
          case rel => exact ⟨i + 1, by omega, by go_num, by rw [HT.out.2.2.2]; exact HF.out.1, HF.out.2⟩
          case measure => simp [intOf]; omega
    · obtain rfl : i = n := by omega
      have HF := Lib.hid (And.intro hLS hC)
      clear hLS hC
      go_wp2_with fail
      go_end0
      exact ⟨rfl, HF.out⟩
set_option maxHeartbeats 4000000 in
theorem each66_any {base go N : Nat} {w : World} (h : LS base go N w) (hN : N ≤ 800) (hbase : base ≤ w.heap.size) {A : Option Addr} {n c : Nat} {cl : List Lc} (hl : cl.length = n) (hR : RSb w base A cl) :
    Calls Try.prog 64 #[.slice A n c, .func (.func 66) #[] #[.pointer (some ⟨go, 0, none⟩)]] w fun e w' => e = .returned (.tuple #[]) ∧ LS base go (N + 8 * fT cl n) w' ∧ ChT base [36, 35] w w' := by
  have hn4 : n ≤ 4 := by rw [← hl]; exact hR.n4
  have HX := Lib.hid (And.intro hl (And.intro hR h))
  clear hl hR h
  go_enter Try.func64, Try.ntmps64
  go_wp2_with fail
  go_loopw [10] (fun iv wr => ∃ i : Nat, i ≤ n ∧ iv = .int .i64 i ∧ LS base go (N + 8 * fT cl i) wr ∧ ChT base [36, 35] w wr) (fun iv _ => n - (intOf iv).toNat)
  case atStart => exact ⟨0, Nat.zero_le _, rfl, by rw [fT_zero]; exact HX.out.2.2, ChT.refl _ _ _⟩
  case round =>
    obtain ⟨i, hi, rfl, hLS, hC⟩ := hrel
    by_cases hlt : i < n
    · have hltI : (i : Int) < n := by omega
      obtain ⟨x, hx⟩ : ∃ x, cl[i]? = some x := ⟨_, List.getElem?_eq_getElem (by rw [HX.out.1]; exact hlt)⟩
      have hxm := List.mem_of_getElem? hx
      have hS := HX.out.2.1.below (hC.below hbase)
      obtain ⟨g, o, rfl, -, hc⟩ := hS.row (by
        intro e
        have h1 := lcells_len cl
        rw [e, HX.out.1] at h1
        simp at h1
        omega)
      have hxt := hS.tab x hxm
      have hxe := hS.ent x hxm
      have c0 := hc _ _ (lcells_at hx (j := 0) rfl)
      have c1' := hc _ _ (lcells_at hx (j := 1) rfl)
      have c2 := hc _ _ (lcells_at hx (j := 2) rfl)
      have c3 := hc _ _ (lcells_at hx (j := 3) rfl)
      have c4 := hc _ _ (lcells_at hx (j := 4) rfl)
      have c5 := hc _ _ (lcells_at hx (j := 5) rfl)
      have c6 := hc _ _ (lcells_at hx (j := 6) rfl)
      have c7 := hc _ _ (lcells_at hx (j := 7) rfl)
      simp only [← Nat.add_assoc, Nat.add_zero] at c0 c1' c2 c3 c4 c5 c6 c7
      obtain ⟨T, hT⟩ : ∃ T, x.tabs.length = T := ⟨_, rfl⟩
      have hfs : fT cl (i + 1) = fT cl i + T := by rw [fT_succ hx, hT]
      have hf4 : fT cl i ≤ 4 * i := fT_le (fun y hy => (HX.out.2.1.tab y hy).1) i
      obtain ⟨F, hF⟩ : ∃ F, fT cl i = F := ⟨_, rfl⟩
      rw [hF] at hLS hfs hf4
      obtain ⟨xA, xc, tabs, first, stim, ev, pre, pri, on, ch⟩ := x
      simp only at c0 c1' c2 c3 c4 c5 c6 c7 hT hxt hxe
      rw [hT] at c1' hxt
      have b1 := bl1 wr (.cells #[.int .i64 first, .slice xA T xc, .bool stim, .int .u8 ev, .int .u8 pre, .int .u8 pri, .bool on, .bool ch] 71)
      have cx := (Blk.new wr 71 #[.int .i64 first, .slice xA T xc, .bool stim, .int .u8 ev, .int .u8 pre, .int .u8 pri, .bool on, .bool ch]).cell
      have HB := Lib.hid (And.intro (hLS.below b1) (hC.grow b1))
      have hbz : Below base w (wr.alloc (.cells #[.int .i64 first, .slice xA T xc, .bool stim, .int .u8 ev, .int .u8 pre, .int .u8 pri, .bool on, .bool ch] 71)) := (hC.grow b1).below hbase
      have HT := Lib.hid (And.intro hT (And.intro (HX.out.2.1.tab _ hxm).2 (And.intro (HX.out.2.1.ent _ hxm) hfs)))
      have hT4 := hxt.1
      have hiw : IntKind.u8.wrap (i : Int) = i := IntWalk.u8_in _ (by omega)
      clear hc hx hS hxt hxe hLS hC b1 hT hfs hF hbz hxm
      go_wp2_with fail
      clear c0 c1' c2 c3 c4 c5 c6 c7 cx
      refine wp_named fun W hW => ?_
      rw [← hW] at HB
      clear hW
      generalize wr = wo at *
      go_loopw [18] (fun kv wr => ∃ k : Nat, k ≤ T ∧ kv = .int .i64 k ∧ LS base go (N + 8 * (F + k)) wr ∧ ChT base [36, 35] w wr) (fun kv _ => T - (intOf kv).toNat)
      case atStart => exact ⟨0, Nat.zero_le _, rfl, HB.out⟩
      case round =>
        obtain ⟨k, hk, rfl, hLS, hC⟩ := hrel
        clear HB
        by_cases hkt : k < T
        · have hktI : (k : Int) < T := by omega
          obtain ⟨t, ht⟩ : ∃ t, tabs[k]? = some t := ⟨_, List.getElem?_eq_getElem (by rw [HT.out.1]; exact hkt)⟩
          have hte := HT.out.2.2.1 t (List.mem_of_getElem? ht)
          have hbw := hC.below hbase
          obtain ⟨gt, ot, rfl, -, hct⟩ := (HT.out.2.1.below hbw) (by
            intro h
            have h1 := tcells_len tabs
            rw [h, HT.out.1] at h1
            simp at h1
            omega)
          have ck := hct k _ (tcells_at ht)
          obtain ⟨m, hm⟩ : ∃ m, t.es.length = m := ⟨_, rfl⟩
          rw [hm] at ck hte
          have hkw : IntKind.u8.wrap (k : Int) = k := IntWalk.u8_in _ (by omega)
          have C := Lib.hid (lay2_any (A := t.A) (c := t.c) hLS (by omega) (Nat.le_trans hbase hC.size) (i := i) (k := k) (by omega) (by omega) hm hte.1 (hte.2.1.below hbw) hte.2.2)
          have HC := Lib.hid hC
          clear ht hte hbw hct hm hLS hC
          go_wp2_with fail
          refine C.out.mono ?_
          rintro e w2 ⟨rfl, hL2, hC2⟩
          have hs : N + 8 * (F + k) + 8 = N + 8 * (F + (k + 1)) := by omega
          rw [hs] at hL2
          have HF := Lib.hid (And.intro hL2 (HC.out.trans hC2))
          clear hL2 hC2 hs hkw
          go_wp2_with fail
          go_roundw
          case rel => exact ⟨k + 1, by omega, by go_num, HF.out⟩
          case measure => simp [intOf]; omega
        · obtain rfl : k = T := by omega
          have HF := Lib.hid (And.intro hLS hC)
          clear hLS hC
          go_wp2_with fail
          go_roundw
          case rel => exact ⟨i + 1, by omega, by go_num, by rw [HT.out.2.2.2]; exact HF.out.1, HF.out.2⟩
          case measure => simp [intOf]; omega
    · obtain rfl : i = n := by omega
      have HF := Lib.hid (And.intro hLS hC)
      clear hLS hC
      go_wp2_with fail
      go_end0
      exact ⟨rfl, HF.out⟩
end Go.Proofs.Yteecgdbicokgoaa
