/- BoxFilters: the walk. -/
import Derived.Test.YtbmkfjgodgmjnaaC0
namespace Go.Proofs.Ytbmkfjgodgmjnaa
open Go.RowKit
set_option linter.unusedVariables false
set_option linter.unusedSimpArgs false
theorem new_lit {Φ : Who} {B : Nat} {W : World} (hN : Nu Φ W) (hB : B ≤ W.heap.size) (l : List Flt) (n : Nat) (hl : l.length = n) (h8 : n ≤ 8) (hwf : ∀ x ∈ l, x.wf) :
    Calls Try.prog 15 #[.slice (some ⟨W.heap.size, 0, none⟩) n n] (W.alloc (.cells (flcells l).toArray 33)) (NewP Φ B (W.alloc (.cells (flcells l).toArray 33)) l) :=
  new_yes Φ B _ n n l _ (by simp; omega) (hN.below (bl1 _ _)) hl ((Blk.new W 33 (flcells l).toArray).rd) (by simp) h8 hwf
/-- What New leaves, seen from the world ahead of the literal. -/
theorem NewP.pre {Φ Φ' : Who} {B : Nat} {W w' : World} {l : List Flt} {o : Obj} {S : Nat × Nat → Prop} (hN : Nu Φ W) (h : Ext B S Φ Φ' (W.alloc o) w') : Ext B S Φ Φ' W w' := (Ext.of_below hN (bl1 W o)).trans h
theorem and0 (x : Int) (h0 : 0 ≤ x) (h1 : x < 4294967296) : bits .and .u32 x 0 = 0 := by
  obtain ⟨n, rfl⟩ := Int.eq_ofNat_of_zero_le h0
  have := u32_and_nat n 0 (by omega) (by omega)
  rw [Nat.and_zero] at this
  exact this
theorem lets_all (f : Fr) (hf : f.wf) : letsB ⟨0, 0, f.ext⟩ f = true := by
  obtain ⟨h0, h1, -⟩ := hf
  unfold letsB
  obtain ⟨n, hn⟩ := Int.eq_ofNat_of_zero_le h0
  have e : bits .xor .u32 0 f.id = f.id := by
    rw [hn]
    have := u32_xor_nat 0 n (by omega) (by omega)
    rw [Nat.zero_xor] at this
    exact this
  rw [show (⟨0, 0, f.ext⟩ : Flt).id = 0 from rfl, e, and0 _ h0 h1]
  simp
theorem xor_self (f : Fr) (hf : f.wf) : bits .xor .u32 f.id f.id = 0 := by
  obtain ⟨h0, h1, -⟩ := hf
  obtain ⟨n, hn⟩ := Int.eq_ofNat_of_zero_le h0
  rw [hn]
  have := u32_xor_nat n n (by omega) (by omega)
  rw [Nat.xor_self] at this
  exact this
theorem lets_own (f : Fr) (hf : f.wf) : letsB ⟨4294967295, f.id, f.ext⟩ f = true := by
  unfold letsB
  rw [show (⟨4294967295, f.id, f.ext⟩ : Flt).id = f.id from rfl, xor_self f hf]
  simp
  decide
theorem xor1_bd (f : Fr) (hf : f.wf) : 0 ≤ bits .xor .u32 f.id 1 ∧ bits .xor .u32 f.id 1 < 4294967296 ∧ bits .xor .u32 (bits .xor .u32 f.id 1) f.id = 1 := by
  obtain ⟨h0, h1, -⟩ := hf
  obtain ⟨n, hn⟩ := Int.eq_ofNat_of_zero_le h0
  have hlt : n < 2 ^ 32 := by omega
  have e1 : bits .xor .u32 f.id 1 = ((n ^^^ 1 : Nat) : Int) := by
    rw [hn]
    exact u32_xor_nat n 1 (by omega) (by omega)
  have e2 : n ^^^ 1 < 2 ^ 32 := Nat.xor_lt_two_pow hlt (by decide)
  rw [e1]
  refine ⟨by omega, by omega, ?_⟩
  rw [hn]
  have := u32_xor_nat (n ^^^ 1) n (by omega) (by omega)
  rw [Nat.xor_comm n 1, Nat.xor_assoc, Nat.xor_self, Nat.xor_zero] at this
  rw [Nat.xor_comm n 1]
  exact this
theorem lets_other (f : Fr) (hf : f.wf) : anyB [⟨4294967295, bits .xor .u32 f.id 1, f.ext⟩, ⟨0, 0, !f.ext⟩] f = false := by
  have h := (xor1_bd f hf).2.2
  have e1 : letsB ⟨4294967295, bits .xor .u32 f.id 1, f.ext⟩ f = false := by
    unfold letsB
    rw [show (⟨4294967295, bits .xor .u32 f.id 1, f.ext⟩ : Flt).id = bits .xor .u32 f.id 1 from rfl, h]
    simp
    decide
  have e2 : letsB ⟨0, 0, !f.ext⟩ f = false := by
    unfold letsB
    cases f.ext <;> rfl
  unfold anyB
  rw [List.any_cons, List.any_cons, e1, e2]
  rfl
theorem flt_wf (m i : Int) (e : Bool) (h0 : 0 ≤ m) (h1 : m < 4294967296) (h2 : 0 ≤ i) (h3 : i < 4294967296) : (Flt.mk m i e).wf := ⟨h0, h1, h2, h3⟩
/-- A box of filters alone. -/
abbrev b0 (l : List Flt) : Bx := ⟨l, [], [], false⟩
theorem flcells_at (l : List Flt) (k : Nat) (t : Flt) (h : l[k]? = some t) : (flcells l)[k * 3]? = some (.int .u32 t.mask) ∧ (flcells l)[k * 3 + 1]? = some (.int .u32 t.id) ∧ (flcells l)[k * 3 + 2]? = some (.bool t.ext) :=
  ⟨flcells_get l k t h 0 _ rfl, flcells_get l k t h 1 _ rfl, flcells_get l k t h 2 _ rfl⟩
theorem any_snoc (ls : List Flt) (f : Fr) (k : Nat) (t : Flt) (h : ls[k]? = some t) : (f.may && anyB (ls.take (k + 1)) f) = (takeB (b0 [t]) f || (f.may && anyB (ls.take k) f)) := by
  obtain ⟨hk, rfl⟩ := List.getElem?_eq_some_iff.1 h
  rw [List.take_succ_eq_append_getElem hk]
  unfold takeB anyB
  rw [List.any_append]
  cases f.may <;> simp [Bool.or_comm]
set_option maxRecDepth 100000 in
set_option maxHeartbeats 2000000 in
theorem filters_any (A : Option Addr) (n c : Nat) (l : List Flt) (f : Fr) (w : World) (hx : l.length = n) (hn : n ≤ c) (hc : c ≤ maxLen) (hA : A = none → n = 0 ∧ c = 0) (hr : Rd w w.heap.size A (flcells l)) (hwf : ∀ x ∈ l, x.wf) (hf : f.wf) :
    Calls Try.prog 3 #[.slice A n c, f.val] w fun e w' => e = .returned (.bool true) ∧ Below w.heap.size w w' := by
  unfold maxLen at hc
  obtain ⟨N, hN⟩ : ∃ N, min n 8 = N := ⟨_, rfl⟩
  obtain ⟨ls, hls⟩ : ∃ ls, l.take N = ls := ⟨_, rfl⟩
  have hlN : ls.length = N := by rw [← hls, List.length_take]; omega
  have hwfs : ∀ x ∈ ls, x.wf := fun x hx => hwf x (List.mem_of_mem_take (by rw [hls]; exact hx))
  have hrs : Rd w w.heap.size A (flcells ls) := by rw [← hls, flcells_take]; exact hr.take _
  have hN8 : N ≤ 8 := by omega
  have hAN : A = none → N = 0 ∧ c = 0 := fun e => ⟨by have := (hA e).1; omega, (hA e).2⟩
  have hNn : N ≤ n := by omega
  have HLN := Lib.hid hlN
  have MY := Lib.hid (fun w => refmay_any f w hf)
  clear hx hr hls hlN
  go_enter Try.func3, Try.ntmps3
  go_wp2_with fail
  refine (shown_any _).mono ?_
  rintro e w1 ⟨rfl, b1⟩
  have k1 := bel1 b1
  have z1 := k1.size
  have BF1 : Blk w1 w.heap.size 26 f.cs.toArray := (Blk.new w 26 f.cs.toArray).below b1
  have hgl := BF1.lt
  go_upto_region 2 with fail
  go_cut [6] (fun v wx => v = .slice A N c ∧ wx = w1)
  case first =>
    by_cases h8 : n ≤ 8
    · obtain rfl : N = n := by omega
      have h8' : (N : Int) ≤ 8 := by omega
      have hcn : (N : Int) ≤ c := by omega
      cases A with
      | none =>
        obtain ⟨h1, rfl⟩ := hAN rfl
        subst h1
        go_wp2_with fail
        go_meet
        case rel => exact ⟨rfl, rfl⟩
      | some ad =>
        go_wp2_with fail
        go_meet
        case rel => exact ⟨rfl, rfl⟩
    · have h8' : (8 : Int) < n := by omega
      obtain rfl : N = 8 := by omega
      have hcn : (8 : Int) ≤ c := by omega
      cases A with
      | none => have := (hA rfl).1; omega
      | some ad =>
        go_wp2_with fail
        go_meet
        case rel => exact ⟨rfl, rfl⟩
  case rest =>
    obtain ⟨rfl, rfl⟩ := hcut
    clear hN
    have C0 := Lib.hid (new_yes (fun _ => (0, 9)) w.heap.size A N c ls wc z1 (nu0 wc) HLN.out ((hrs.below k1).more z1) hAN hN8 hwfs)
    go_wp2_with fail
    refine C0.out.mono ?_
    rintro e w2 ⟨q, Φ2, rfl, hq, B2, x2⟩
    have z2 := x2.size
    have F2 : BlC Φ2 (0, 9) w2 w.heap.size 26 f.cs.toArray := BlC.ext (S := fun _ => False) (B := w.heap.size) ⟨BF1, rfl⟩ x2 (fun h => h)
    have k2 := k1.trans (x2.below z1)
    clear C0 BF1
    go_wp2_with fail
    go_loopw [9, 40] (fun av iv wr => ∃ (k : Nat) (Φ : Who), k ≤ N ∧ iv = .int .i64 k ∧ av = .bool (f.may && anyB (ls.take k) f) ∧ BX Φ w.heap.size wr q (b0 ls) ∧ Nu Φ wr ∧ BlC Φ (0, 9) wr w.heap.size 26 f.cs.toArray ∧ Below w.heap.size w wr) (fun _ iv _ => N - (intOf iv).toNat)
    case atStart => exact ⟨0, Φ2, Nat.zero_le _, rfl, by simp [anyB], B2, x2.nu, F2, k2⟩
    case round =>
      obtain ⟨k, Φ, hk, rfl, rfl, BQ, hNu, FQ, hbr⟩ := hrel
      have hzr := hbr.size
      clear B2 x2 F2 k2
      by_cases hlt : k < N
      · have hlt' : (k : Int) < N := by omega
        obtain ⟨t, ht⟩ : ∃ t, ls[k]? = some t := ⟨_, List.getElem?_eq_getElem (by rw [HLN.out]; exact hlt)⟩
        have htw := hwfs t (List.mem_of_getElem? ht)
        have hne : flcells ls ≠ [] := by intro h; have h2 := flcells_len ls; rw [h, HLN.out] at h2; simp at h2; omega
        obtain ⟨b, o, ea, hbl, hcl⟩ := hrs.below hbr hne
        obtain ⟨g0, g1, g2⟩ := flcells_at ls k t ht
        have r0 := hcl _ _ g0
        have r1 := hcl _ _ g1
        have r2 := hcl _ _ g2
        rw [← Nat.add_assoc] at r1 r2
        have HT := Lib.hid ht
        clear hcl g0 g1 g2 ht
        have hNx : Hid (∀ o, Nu Φ (wr.alloc o)) := Lib.hid fun o => hNu.below (bl1 wr o)
        obtain ⟨bv, hbv⟩ : ∃ bv, (f.may && anyB (ls.take k) f) = bv := ⟨_, rfl⟩
        have HBV := Lib.hid hbv
        rw [hbv]
        clear hbv
        have C1 := fun o => new_lit (hNx.out o) (B := w.heap.size) (by simp; omega) [t] 1 rfl (by decide) (by intro x hx; simp at hx; subst hx; exact htw)
        simp only [World.size_alloc] at C1
        have C1 := Lib.hid C1
        subst ea
        have BQ1 := Lib.hid (fun o => BQ.below (bl1 wr o))
        have FQ1 := Lib.hid (fun o => FQ.below (bl1 wr o))
        go_wp2_with fail
        refine (C1.out _).mono ?_
        rintro e w3 ⟨q3, Φ3, rfl, hq3, B3, x3⟩
        have x3' := Ext.trans (Ext.of_below (hNx.out _) (bl1 _ _)) x3
        have BQ3 := (BQ1.out _).ext x3' (fun _ _ h => h) (fun h => h)
        have FQ3 := (FQ1.out _).ext x3' (fun h => h)
        have z3 := x3'.size
        simp only [World.size_alloc] at z3 hq3
        have fc := FQ3.1.cell
        have T3 := Lib.hid (take_any B3 (by omega) x3.nu f hf)
        have hqq : q ≠ q3 := by have := BQ.lt; omega
        have hb3 := (hbr.alloc hzr (.cells #[.int .u32 t.mask, .int .u32 t.id, .bool t.ext] 33)).trans (x3'.below (by simp; omega))
        clear C1 hNx
        go_wp2_with fail
        obtain ⟨tb, htb⟩ : ∃ tb, takeB (b0 [t]) f = tb := ⟨_, rfl⟩
        rw [htb] at T3
        have HTB := Lib.hid htb
        clear htb
        have BQ3' := Lib.hid BQ3
        have FQ3' := Lib.hid FQ3
        have HX3 := Lib.hid x3
        clear BQ3 FQ3 x3 x3' B3
        cases tb
        all_goals
          refine T3.out.mono ?_
          rintro e w4 ⟨rfl, Φ4, B4, x4⟩
          have BQ4 := BQ3'.out.ext x4 (fun j hj h => hqq h.1) (Sq.no9 q3)
          have FQ4 := FQ3'.out.ext x4 (Sq.no9 q3)
          have hb4 := hb3.trans (x4.below (by omega))
          have hnu4 := x4.nu
          have HE : Hid (∀ b, (takeB (b0 [t]) f || bv) = b → (f.may && anyB (ls.take (k + 1)) f) = b) := Lib.hid fun b hb => by rw [any_snoc ls f k t HT.out, HBV.out]; exact hb
          clear x4 B4 T3
          go_wp2_with fail
          go_roundw
          case rel => exact ⟨k + 1, Φ4, by omega, by go_num, by rw [HE.out _ rfl, HTB.out]; rfl, BQ4, hnu4, FQ4, hb4⟩
          case measure => simp [intOf]; omega
      · obtain rfl : k = N := by omega
        have hany : Hid (takeB (b0 ls) f = (f.may && anyB (ls.take k) f)) := Lib.hid (by rw [List.take_of_length_le (by rw [HLN.out]; exact Nat.le_refl _)]; rfl)
        obtain ⟨bv, hbv⟩ : ∃ bv, (f.may && anyB (ls.take k) f) = bv := ⟨_, rfl⟩
        rw [hbv] at hany
        rw [hbv]
        clear hbv
        have fc := FQ.1.cell
        have N1 := Lib.hid (new_lit (B := w.heap.size) hNu hzr [⟨0, 0, f.ext⟩] 1 rfl (by decide) (by intro x hx; simp at hx; subst hx; exact flt_wf _ _ _ (by decide) (by decide) (by decide) (by decide)))
        go_wp2_with fail
        refine N1.out.mono ?_
        rintro e w3 ⟨q3, Φ3, rfl, hq3, B3, x3⟩
        have x3 := Ext.trans (Ext.of_below hNu (bl1 _ _)) x3
        have z3 := x3.size
        have BQ3 := BQ.ext x3 (fun _ _ h => h) (fun h => h)
        have FQ3 := FQ.ext x3 (fun h => h)
        have hb3 := hbr.trans (x3.below hzr)
        have hqq3 : q3 ≠ q := by have := BQ.lt; simp at hq3; omega
        have fc3 := FQ3.1.cell
        have N2 := Lib.hid (new_lit (B := w.heap.size) x3.nu (by omega) [⟨4294967295, f.id, f.ext⟩] 1 rfl (by decide) (by intro x hx; simp at hx; subst hx; exact flt_wf _ _ _ (by decide) (by decide) hf.1 hf.2.1))
        clear N1 BQ FQ fc
        go_wp2_with fail
        refine N2.out.mono ?_
        rintro e w4 ⟨q4, Φ4, rfl, hq4, B4, x4⟩
        have x4 := Ext.trans (Ext.of_below x3.nu (bl1 _ _)) x4
        have z4 := x4.size
        have BQ4 := BQ3.ext x4 (fun _ _ h => h) (fun h => h)
        have FQ4 := FQ3.ext x4 (fun h => h)
        have B34 := B3.ext x4 (fun _ _ h => h) (fun h => h)
        have hb4 := hb3.trans (x4.below (by omega))
        have hqq4 : q4 ≠ q := by have := BQ3.lt; simp at hq4; omega
        have hqq43 : q4 ≠ q3 := by have := B3.lt; simp at hq4; omega
        have fc4 := FQ4.1.cell
        obtain ⟨xd0, xd1, -⟩ := xor1_bd f hf
        have N3 := Lib.hid (new_lit (B := w.heap.size) x4.nu (by omega) [⟨4294967295, bits .xor .u32 f.id 1, f.ext⟩, ⟨0, 0, !f.ext⟩] 2 rfl (by decide) (by
          intro x hx
          simp at hx
          rcases hx with rfl | rfl
          · exact flt_wf _ _ _ (by decide) (by decide) xd0 xd1
          · exact flt_wf _ _ _ (by decide) (by decide) (by decide) (by decide)))
        clear N2 BQ3 FQ3 fc3 B3 x3
        go_wp2_with fail
        refine N3.out.mono ?_
        rintro e w5 ⟨q5, Φ5, rfl, hq5, B5, x5⟩
        have x5 := Ext.trans (Ext.of_below x4.nu (bl1 _ _)) x5
        have z5 := x5.size
        have BQ5 := BQ4.ext x5 (fun _ _ h => h) (fun h => h)
        have FQ5 := FQ4.ext x5 (fun h => h)
        have B35 := B34.ext x5 (fun _ _ h => h) (fun h => h)
        have B45 := B4.ext x5 (fun _ _ h => h) (fun h => h)
        have hb5 := hb4.trans (x5.below (by omega))
        have hqq5 : q5 ≠ q := by have := BQ4.lt; simp at hq5; omega
        have hqq53 : q5 ≠ q3 := by have := B34.lt; simp at hq5; omega
        have hqq54 : q5 ≠ q4 := by have := B4.lt; simp at hq5; omega
        have hnu5 := x5.nu
        have fc5 := FQ5.1.cell
        clear N3 BQ4 FQ4 fc4 B34 B4 x4 x5
        go_wp2_with fail
        refine (MY.out _).mono ?_
        rintro e w6 ⟨rfl, b6⟩
        have z6 := b6.size
        have T1 := Lib.hid (take_any (BQ5.below b6) (by omega) (hnu5.below b6) f hf)
        rw [hany.out] at T1
        have hb6 := hb5.trans (b6.mono (by omega))
        have FQ6 := FQ5.below b6
        have B36 := B35.below b6
        have B46 := B45.below b6
        have B56 := B5.below b6
        have fc6 := FQ6.1.cell
        have hbb : (bv == bv) = true := by simp
        have hmm : (f.may == f.may) = true := by simp
        clear BQ5 FQ5 fc5 B35 B45 B5
        go_wp2_with fail
        refine T1.out.mono ?_
        rintro e w7 ⟨rfl, Φ7, -, x7⟩
        have z7 := x7.size
        have B37 := B36.ext x7 (fun j hj h => hqq3 h.1) (Sq.no9 _)
        have B47 := B46.ext x7 (fun j hj h => hqq4 h.1) (Sq.no9 _)
        have B57 := B56.ext x7 (fun j hj h => hqq5 h.1) (Sq.no9 _)
        have FQ7 := FQ6.ext x7 (Sq.no9 _)
        have hb7 := hb6.trans (x7.below (by omega))
        have fc7 := FQ7.1.cell
        have T2 := take_any B37 (by omega) x7.nu f hf
        rw [show takeB (b0 [⟨0, 0, f.ext⟩]) f = f.may by unfold takeB anyB; rw [List.any_cons, lets_all f hf]; cases f.may <;> rfl] at T2
        have T2 := Lib.hid T2
        clear T1 FQ6 fc6 B36 B46 B56
        go_wp2_with fail
        refine T2.out.mono ?_
        rintro e w8 ⟨rfl, Φ8, -, x8⟩
        have z8 := x8.size
        have B48 := B47.ext x8 (fun j hj h => hqq43 h.1) (Sq.no9 _)
        have B58 := B57.ext x8 (fun j hj h => hqq53 h.1) (Sq.no9 _)
        have FQ8 := FQ7.ext x8 (Sq.no9 _)
        have hb8 := hb7.trans (x8.below (by omega))
        have fc8 := FQ8.1.cell
        have T3 := take_any B48 (by omega) x8.nu f hf
        rw [show takeB (b0 [⟨4294967295, f.id, f.ext⟩]) f = f.may by unfold takeB anyB; rw [List.any_cons, lets_own f hf]; cases f.may <;> rfl] at T3
        have T3 := Lib.hid T3
        clear T2 FQ7 fc7 B37 B47 B57
        go_wp2_with fail
        refine T3.out.mono ?_
        rintro e w9 ⟨rfl, Φ9, -, x9⟩
        have z9 := x9.size
        have B59 := B58.ext x9 (fun j hj h => hqq54 h.1) (Sq.no9 _)
        have hb9 := hb8.trans (x9.below (by omega))
        have FQ9 := FQ8.ext x9 (Sq.no9 _)
        have fc9 := FQ9.1.cell
        have T4 := take_any B59 (by omega) x9.nu f hf
        rw [show takeB (b0 [⟨4294967295, bits .xor .u32 f.id 1, f.ext⟩, ⟨0, 0, !f.ext⟩]) f = false by unfold takeB; rw [lets_other f hf]; cases f.may <;> rfl] at T4
        have T4 := Lib.hid T4
        clear T3 FQ8 fc8 B48 B58
        go_wp2_with fail
        refine T4.out.mono ?_
        rintro e w10 ⟨rfl, Φ10, -, x10⟩
        have hb10 := hb9.trans (x10.below (by omega))
        go_wp2_with fail
        go_ret
        exact ⟨rfl, hb10⟩
end Go.Proofs.Ytbmkfjgodgmjnaa
