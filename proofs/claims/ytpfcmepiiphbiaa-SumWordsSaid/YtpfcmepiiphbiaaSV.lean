/- SumWords: the walk. -/
import Derived.Test.YtpfcmepiiphbiaaSW
namespace Go.Proofs.Ytpfcmepiiphbiaa
open Go.RowKit Go.Maps
set_option linter.unusedVariables false
set_option linter.unusedSimpArgs false
def Apart (A B : Option Addr) : Prop := ∀ g, blkOf A = some g → blkOf B = some g → False
theorem Apart.symm {A B : Option Addr} (h : Apart A B) : Apart B A := fun g h1 h2 => h g h2 h1
theorem Apart.app {w W : World} {A A' B : Option Addr} {base : Nat} {n c : Nat} {xs : List Value} (h : Apart A B) (hB : Own w base 5 1 B n c xs) (hw : w.heap.size ≤ W.heap.size) (ha : blkOf A' = blkOf A ∨ blkOf A' = some W.heap.size) : Apart A' B := fun g h1 h2 => by
  rcases ha with ha | ha
  · exact h g (ha ▸ h1) h2
  · rw [ha] at h1
    injection h1 with h1
    have := (hB.lt h2).2
    omega
theorem Apart.grown {w w' : World} {A B : Option Addr} {base : Nat} {n c : Nat} {xs : List Value} (h : Apart A B) (hB : Own w base 5 1 B n c xs) (hg : w.grownBy w' (blkOf A)) : Own w' base 5 1 B n c xs :=
  hB.kept fun g hgb => hg.block g (hB.lt hgb).2 (fun e => h g e.symm hgb)
theorem u8s_snoc (xs : List Int) (x : Int) : u8s xs ++ [.int .u8 x] = u8s (xs ++ [x]) := by simp
set_option maxRecDepth 100000 in
set_option maxHeartbeats 8000000 in
theorem words_any (A1 : Option Addr) (n1 c1 : Nat) (xs1 : List Int) (w : World)
    (hx1 : xs1.length = n1) (hn1 : n1 ≤ c1) (hc1 : c1 ≤ maxLen) (hr1 : Rd w w.heap.size A1 (u8s xs1)) (hA1 : A1 = none → n1 = 0 ∧ c1 = 0) (hu1 : b8 xs1) :
    Calls Try.prog 11 #[.slice A1 n1 c1] w fun e w' => e = .returned (.bool true) ∧ Below w.heap.size w w' := by
  obtain ⟨N1, hN1⟩ : ∃ N, min n1 300 = N := ⟨_, rfl⟩
  obtain ⟨m, hm⟩ : ∃ m, N1 / 2 = m := ⟨_, rfl⟩
  obtain ⟨X, hX⟩ : ∃ X, m * 2 = X := ⟨_, rfl⟩
  obtain ⟨s, hs, hrs, hus⟩ : ∃ s, s.length = X ∧ Rd w w.heap.size A1 (u8s s) ∧ b8 s :=
    ⟨xs1.take X, by rw [List.length_take]; omega, hr1.take' X, fun x hx' => hu1 x (List.mem_of_mem_take hx')⟩
  obtain ⟨p, q, hp, hq, V1, V2, V3, V4, V5, V6⟩ := words_law s hus m (by omega) (by omega)
  have FW1 := Lib.hid fun (W : World) => few3_any A1 n1 c1 W hn1 (by omega) hA1
  rw [hN1] at FW1
  have R1 := Lib.hid fun (W : World) (hW : Below w.heap.size w W) => (hrs.below hW).more hW.size
  have HL1 := Lib.hid hs
  have HA : Hid (A1 = none → X = 0) := fun h => by have := hA1 h; omega
  have HU := Lib.hid hus
  have OA := Lib.hid fun (W : World) (hW : Below w.heap.size w W) => of_any 5 A1 X c1 s true W hs (R1.out W hW) (fun h => by have := hA1 h; omega) (by omega) (by omega) hc1 hus
  have OB := Lib.hid fun (W : World) (hW : Below w.heap.size w W) => of_any 5 A1 X c1 s false W hs (R1.out W hW) (fun h => by have := hA1 h; omega) (by omega) (by omega) hc1 hus
  have OE := Lib.hid fun (W : World) (A : Option Addr) (c : Nat) (h : Own W w.heap.size 5 1 A m c (u8s (evL s X))) => of_own 3 A m c _ true W h (by rw [evL_len]; omega) (by omega) (evL_b8 s hus X)
  have OO := Lib.hid fun (W : World) (A : Option Addr) (c : Nat) (h : Own W w.heap.size 5 1 A m c (u8s (odL s X))) => of_own 3 A m c _ true W h (by rw [odL_len]; omega) (by omega) (odL_b8 s hus X)
  have OC := Lib.hid fun (W : World) (hW : Below w.heap.size w W) => of_any 3 A1 X c1 s false W hs (R1.out W hW) (fun h => by have := hA1 h; omega) (by omega) (by omega) hc1 hus
  have OD := Lib.hid fun (W : World) (B : Nat) (A : Option Addr) (c : Nat) (h : Own W B 5 1 A (X + 1) c (u8s (s ++ [1]))) => of_own 5 A (X + 1) c _ true W h (by rw [List.length_append, hs]; rfl) (by omega) (b8_app hus (fun x hx => by simp only [List.mem_singleton] at hx; subst hx; decide))
  have h2m : X = 2 * m := by omega
  unfold OfP at OA OB OE OO OC OD
  rw [V1] at OA
  rw [V2] at OB
  rw [h2m, V3, ← h2m] at OE
  rw [h2m, V4, ← h2m] at OO
  rw [V5] at OC
  rw [V6] at OD
  have HAN : Hid (∀ t, t < X → ∃ bb oo x, A1 = some ⟨bb, oo, none⟩ ∧ (∀ W, Below w.heap.size w W → W.cell? ⟨bb, oo + t, none⟩ = some (.int .u8 x)) ∧ s.getD t 0 = x) := fun t ht => by
    obtain ⟨b, o, e, hbl, hcc⟩ := hrs (by intro h; have h' : s = [] := by simpa using h
                                          rw [h'] at hs; simp at hs; omega)
    have hlt : t < s.length := by omega
    refine ⟨b, o, s[t], e, fun W hW => (hW.cell (p := ⟨b, o + t, none⟩) hbl).trans (hcc t _ (by rw [List.getElem?_map, List.getElem?_eq_getElem hlt]; rfl)), ?_⟩
    rw [List.getD_eq_getElem?_getD, List.getElem?_eq_getElem hlt]; rfl
  have d1 : (N1 : Int) / 2 = (m : Int) := by omega
  have m1 : IntKind.i64.wrap ((m : Int) * 2) = (X : Int) := by rw [IntKind.wrap_i64]; omega
  have l1 : (X : Int) ≤ c1 := by omega
  have hX300 : X ≤ 300 := by omega
  have hm150 : m ≤ 150 := by omega
  have m0 : IntKind.i64.wrap (m : Int) = (m : Int) := by rw [IntKind.wrap_i64]; omega
  obtain ⟨n, hn⟩ : ∃ n, 256 * p + q = n := ⟨_, rfl⟩
  obtain ⟨n', hn'⟩ : ∃ n, 256 * q + p = n := ⟨_, rfl⟩
  obtain ⟨all, hall⟩ : ∃ n, p + q = n := ⟨_, rfl⟩
  rw [hn] at OA
  rw [hn'] at OB
  rw [hall] at OC
  obtain ⟨p2, hp2⟩ : ∃ p2 : Nat, 256 * p = p2 := ⟨_, rfl⟩
  obtain ⟨q2, hq2⟩ : ∃ q2 : Nat, 256 * q = q2 := ⟨_, rfl⟩
  have k1 : IntKind.u32.wrap (256 * (p : Int)) = (p2 : Int) := by rw [IntKind.wrap_u32]; omega
  have k2 : IntKind.u32.wrap ((p2 : Int) + q) = (n : Int) := by rw [IntKind.wrap_u32]; omega
  have k3 : IntKind.u32.wrap (256 * (q : Int)) = (q2 : Int) := by rw [IntKind.wrap_u32]; omega
  have k4 : IntKind.u32.wrap ((q2 : Int) + p) = (n' : Int) := by rw [IntKind.wrap_u32]; omega
  have k5 : IntKind.u32.wrap ((p : Int) + q) = (all : Int) := by rw [IntKind.wrap_u32]; omega
  have HX := Lib.hid h2m
  clear hn hn' hall hp2 hq2 hp hq V1 V2 V3 V4 V5 V6 hx1 hr1 hA1 hu1 hN1 hm hX hs hrs hus h2m
  go_enter Try.func11, Try.ntmps11
  go_wp2_with fail
  refine (shown5_any w).mono ?_
  rintro e w1 ⟨rfl, hb1⟩
  go_wp2_with fail
  refine (FW1.out w1).mono ?_
  rintro e w' ⟨rfl, rfl⟩
  go_wp2_with fail
  clear d1 m1 m0
  go_loopw [5, 6, 32] (fun ev ov iv wx => ∃ (i ne no : Nat) (Ae : Option Addr) (ce : Nat) (Ao : Option Addr) (co : Nat), i ≤ X ∧ ne = (i + 1) / 2 ∧ no = i / 2 ∧ ev = .slice Ae ne ce ∧ ov = .slice Ao no co ∧ iv = .int .i64 (i : Nat) ∧ Own wx w.heap.size 5 1 Ae ne ce (u8s (evL s i)) ∧ Own wx w.heap.size 5 1 Ao no co (u8s (odL s i)) ∧ Apart Ae Ao ∧ Below w.heap.size w wx) (fun _ _ iv _ => X - (intOf iv).toNat)
  case atStart => exact ⟨0, 0, 0, none, 0, none, 0, Nat.zero_le _, rfl, rfl, rfl, rfl, rfl, Own.nil _ _ _ _, Own.nil _ _ _ _, fun g h => by (cases h), hb1⟩
  case round =>
    obtain ⟨i, ne, no, Ae, ce, Ao, co, hi, hne, hno, rfl, rfl, rfl, hoe, hoo, hap, hb⟩ := hrel
    have hz := hb.size
    have HNE := Lib.hid hne
    have HNO := Lib.hid hno
    by_cases hlt : i < X
    · obtain ⟨bb, oo, x, rfl, cx0, hxx⟩ := HAN.out i hlt
      have cx := cx0 wr hb
      have hltI : (i : Int) < X := by omega
      have hi64 : IntKind.i64.wrap ((i : Int) + 1) = ((i + 1 : Nat) : Int) := by rw [IntKind.wrap_i64]; omega
      by_cases hpar : i % 2 = 0
      · have hpI : (i : Int) % 2 = 0 := by omega
        have HE : Hid (evL s (i + 1) = evL s i ++ [x]) := by
          show _ = _
          rw [evL, if_pos hpar, hxx]
        have HO : Hid (odL s (i + 1) = odL s i) := by
          show _ = _
          rw [odL, if_pos hpar]
        have hn300 : ne ≤ 300 := by omega
        clear hne hno hpar hlt cx0
        go_wp2_with (at_builtin; refine wpList_app _ rfl (.tmp 40) (.tmp 42) 25 rfl w.heap.size 5 (.int .u8 0) 1 1 Try.underlying25 info5 rfl (by decide) Ae ne ce _ rfl (hoe.alloc _) _ _ 1 1 _ rfl rfl (Rd.one wr (.int .u8 x) 5) (one_one rfl) (by unfold maxLen; omega) (by omega) (by simp; omega) ?_; intro A' c' w' hown' hg hbk)
        have hb' : Below w.heap.size w w' := (hb.alloc hz _).grown hg (by simp; omega) (fun k hk => (hoe.lt hk).1)
        have hoo' := hap.grown (hoo.alloc _) hg
        have hap' := hap.app (hoo.alloc _) (Nat.le_refl _) hbk
        rw [u8s_snoc, ← HE.out] at hown'
        rw [← HO.out] at hoo'
        go_roundw
        case rel =>
          have hne := HNE.out
          have hno := HNO.out
          exact ⟨i + 1, ne + 1, no, A', c', Ao, co, by omega, by omega, by omega, rfl, rfl, by go_num, hown', hoo', hap', hb'⟩
        case measure => simp [intOf]; omega
      · have hpI : (i : Int) % 2 = 1 := by omega
        have HE : Hid (odL s (i + 1) = odL s i ++ [x]) := by
          show _ = _
          rw [odL, if_neg hpar, hxx]
        have HO : Hid (evL s (i + 1) = evL s i) := by
          show _ = _
          rw [evL, if_neg hpar]
        have hn300 : no ≤ 300 := by omega
        have HPar := Lib.hid hpar
        clear hne hno hpar hlt cx0
        go_wp2_with (at_builtin; refine wpList_app _ rfl (.tmp 44) (.tmp 46) 25 rfl w.heap.size 5 (.int .u8 0) 1 1 Try.underlying25 info5 rfl (by decide) Ao no co _ rfl (hoo.alloc _) _ _ 1 1 _ rfl rfl (Rd.one wr (.int .u8 x) 5) (one_one rfl) (by unfold maxLen; omega) (by omega) (by simp; omega) ?_; intro A' c' w' hown' hg hbk)
        have hb' : Below w.heap.size w w' := (hb.alloc hz _).grown hg (by simp; omega) (fun k hk => (hoo.lt hk).1)
        have hoe' := hap.symm.grown (hoe.alloc _) hg
        have hap' := (hap.symm.app (hoe.alloc _) (Nat.le_refl _) hbk).symm
        rw [u8s_snoc, ← HE.out] at hown'
        rw [← HO.out] at hoe'
        go_roundw
        case rel =>
          have hne := HNE.out
          have hno := HNO.out
          have hpar := HPar.out
          exact ⟨i + 1, ne, no + 1, Ae, ce, A', c', by omega, by omega, by omega, rfl, rfl, by go_num, hoe', hown', hap', hb'⟩
        case measure => simp [intOf]; omega
    · obtain rfl : i = X := by omega
      have hX := HX.out
      obtain rfl : ne = m := by omega
      obtain rfl : no = ne := by omega
      clear hne hno hX hlt hi
      go_wp2_with fail
      refine (OA.out _ hb).mono ?_
      rintro e w2 ⟨rfl, hb2⟩
      have hb3 := hb.trans (hb2.mono hz)
      go_wp2_with fail
      refine (OB.out _ hb3).mono ?_
      rintro e w3 ⟨rfl, hb4⟩
      have hb5 := hb3.trans (hb4.mono hb3.size)
      have hoe3 := (hoe.below hb2).below hb4
      have hoo3 := (hoo.below hb2).below hb4
      go_wp2_with fail
      refine (OE.out _ _ _ hoe3).mono ?_
      rintro e w4 ⟨rfl, hb6⟩
      have hb7 := hb5.trans (hb6.mono hb5.size)
      go_wp2_with fail
      refine (OO.out _ _ _ (hoo3.below hb6)).mono ?_
      rintro e w5 ⟨rfl, hb8⟩
      have hb9 := hb7.trans (hb8.mono hb7.size)
      go_wp2_with fail
      refine (OC.out _ hb9).mono ?_
      rintro e w6 ⟨rfl, hb10⟩
      have hb11 := hb9.trans (hb10.mono hb9.size)
      have hz11 := hb11.size
      go_wp2_with (at_builtin; refine wpList_grow8 rfl (.tmp 80) (.tmp 81) rfl A1 _ s rfl HA.out HL1.out (R1.out _ (hb11.alloc hz11 _)) _ 1 1 [1] rfl rfl (Own.lit _ 0 (Nat.zero_le _) [1] (by decide)).rd (by decide) (by omega) ?_; intro B1 d1 w7 ho7 hb12)
      have hb13 := (hb11.alloc hz11 _).trans (hb12.mono (hb11.alloc hz11 _).size)
      refine (OD.out _ _ _ _ ho7).mono ?_
      rintro e w8 ⟨rfl, hb14⟩
      have hb15 := hb13.trans (hb14.mono hb13.size)
      go_wp2_with fail
      go_ret
      exact ⟨rfl, hb15⟩
end Go.Proofs.Ytpfcmepiiphbiaa
