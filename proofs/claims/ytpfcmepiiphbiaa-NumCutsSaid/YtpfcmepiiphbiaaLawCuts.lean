/- NumCuts: the walk. -/
import Derived.Test.YtpfcmepiiphbiaaCutsP
namespace Go.Proofs.Ytpfcmepiiphbiaa
open Go.RowKit
set_option linter.unusedVariables false
set_option linter.unusedSimpArgs false
theorem Own.at' {w : World} {base : Nat} {e : TypeId} {A : Option Addr} {n c : Nat} {xs : List Value} (h : Own w base e 1 A n c xs) (hn : 0 < n) : ∃ g o, A = some ⟨g, o, none⟩ := by
  cases A with
  | none => have h1 := h.2.2.2.1 rfl; have h2 := h.2.1; omega
  | some a => obtain ⟨g, off, cur, rfl, -⟩ := h.2.2.2.2 a rfl; exact ⟨g, off, rfl⟩
set_option maxRecDepth 100000 in
set_option maxHeartbeats 4000000 in
theorem cuts_any (A1 : Option Addr) (n1 c1 : Nat) (vs : List Int) (A2 : Option Addr) (n2 c2 : Nat) (ws : List Int) (big : Bool) (w : World)
    (hx1 : vs.length = n1) (hb1 : Rd w w.heap.size A1 (u64s vs)) (hn1 : n1 ≤ c1) (hc1 : c1 ≤ maxLen) (hA1 : A1 = none → n1 = 0 ∧ c1 = 0) (hu1 : ∀ x ∈ vs, 0 ≤ x ∧ x < 18446744073709551616)
    (hx2 : ws.length = n2) (hb2 : Rd w w.heap.size A2 (u8s ws)) (hn2 : n2 ≤ c2) (hc2 : c2 ≤ maxLen) (hA2 : A2 = none → n2 = 0 ∧ c2 = 0) (hu2 : ∀ x ∈ ws, 0 ≤ x ∧ x < 256) :
    Calls Try.prog 7 #[.slice A1 n1 c1, .slice A2 n2 c2, .bool big] w fun e w' => e = .returned (.bool true) ∧ Below w.heap.size w w' := by
  unfold maxLen at hc1 hc2
  have HX1 := Lib.hid hx1
  have HX2 := Lib.hid hx2
  have HU1 := Lib.hid hu1
  have HU2 := Lib.hid hu2
  clear hx1 hx2 hu1 hu2
  go_enter Try.func7, Try.ntmps7
  go_wp2_with fail
  refine (shown_any _).mono ?_
  rintro e w1 ⟨rfl, hbw1⟩
  have hcs : (A1 = none ∧ n1 = 0 ∧ c1 = 0) ∨ (∃ a, A1 = some a) ∧ n1 ≤ 5 ∨ (∃ a, A1 = some a) ∧ 5 < n1 := by
    cases A1 with
    | none => exact .inl ⟨rfl, hA1 rfl⟩
    | some a => rcases Nat.lt_or_ge 5 n1 with h | h
                · exact .inr (.inr ⟨⟨a, rfl⟩, h⟩)
                · exact .inr (.inl ⟨⟨a, rfl⟩, h⟩)
  clear hA1 hA2
  obtain ⟨n, hn⟩ : ∃ n, min n1 5 = n := ⟨_, rfl⟩
  have hn5 : n ≤ 5 := by omega
  rcases hcs with ⟨rfl, rfl, rfl⟩ | ⟨⟨a, rfl⟩, h5⟩ | ⟨⟨a, rfl⟩, h5⟩
  case inl =>
    clear hn hn5
    go_wp2_with fail
    go_loop [8, 9, 10, 31] (fun b x y i => b = .slice none 0 0 ∧ x = .slice none 0 0 ∧ y = .slice none 0 0 ∧ i = .int .i64 0) (fun _ _ _ _ => 0)
    case atStart => exact ⟨rfl, rfl, rfl, rfl⟩
    case round =>
      obtain ⟨rfl, rfl, rfl, rfl⟩ := hrel
      go_wp2_with fail
      go_loop [8, 71] (fun b i => b = .slice none 0 0 ∧ i = .int .i64 0) (fun _ _ => 0)
      case atStart => exact ⟨rfl, rfl⟩
      case round =>
        obtain ⟨rfl, rfl⟩ := hrel
        go_wp2_with fail
        go_ret
        exact ⟨rfl, hbw1⟩
  case' inr.inl =>
    have e2 : min (n1 : Int) 5 = (n1 : Int) := by omega
    have h5' : (n1 : Int) ≤ 5 := by omega
    have hN1 : (n : Int) ≤ n1 := by omega
    have hN2 : (n1 : Int) ≤ n := by omega
    have hnn : n ≤ n1 := by omega
    clear hn
    go_wp2_with fail
  case' inr.inr =>
    have e2 : min (n1 : Int) 5 = 5 := by omega
    have e3 : max (5 : Int) 0 = 5 := by omega
    have h5' : (5 : Int) ≤ n1 := by omega
    have hN1 : (n : Int) ≤ 5 := by omega
    have hN2 : 5 ≤ (n : Int) := by omega
    have hnn : n ≤ n1 := by omega
    clear hn
    go_wp2_with fail
  all_goals
    go_loopw [8, 9, 10, 31] (fun b want wide i wr => ∃ (k N : Nat) (B1 : Option Addr) (d1 : Nat) (B2 : Option Addr) (d2 : Nat) (B3 : Option Addr) (d3 : Nat), k ≤ n ∧ i = .int .i64 k ∧ b = .slice B1 N d1 ∧ want = .slice B2 k d2 ∧ wide = .slice B3 k d3 ∧ (catB vs ws big k).length = N ∧
      Own wr w.heap.size 5 1 B1 N d1 (u8s (catB vs ws big k)) ∧ Own wr w.heap.size 22 1 B2 k d2 (u64s (wantL vs ws k)) ∧ Own wr w.heap.size 3 1 B3 k d3 (i64s (wideL ws k)) ∧ Below w.heap.size w wr) (fun _ _ _ i _ => n - (intOf i).toNat)
    case atStart => exact ⟨0, 0, none, 0, none, 0, none, 0, Nat.zero_le _, rfl, rfl, rfl, rfl, rfl, Own.nil _ _ _ _, Own.nil _ _ _ _, Own.nil _ _ _ _, hbw1⟩
    case round =>
      obtain ⟨k, N, B1, d1, B2, d2, B3, d3, hk, rfl, rfl, rfl, rfl, hN, o1, o2, o3, hbr⟩ := hrel
      have hzr := hbr.size
      have hN8 : N ≤ 8 * k := by have := cat_len vs ws big k; omega
      have HN := Lib.hid hN
      clear hN
      by_cases hlt : k < n
      · have hlt' : (k : Int) < n := by omega
        obtain ⟨v, hv⟩ : ∃ v, vs[k]? = some v := ⟨_, List.getElem?_eq_getElem (by rw [HX1.out]; omega)⟩
        have hvd : vs.getD k 0 = v := by rw [List.getD_eq_getElem?_getD, hv]; rfl
        obtain ⟨v0, v1⟩ := HU1.out v (List.mem_of_getElem? hv)
        obtain ⟨b, o, ea, -, hcell⟩ := hb1.below hbr (by intro h; have h2 : vs = [] := (by simpa using h); rw [h2] at hv; cases hv)
        have hcv := hcell k (.int .u64 v) (by rw [List.getElem?_map, hv]; rfl)
        clear hcell
        cases ea
        have HS1 := Lib.hid (catB_succ vs ws big k)
        have HS2 := Lib.hid (wantL_succ vs ws k)
        have HS3 := Lib.hid (wideL_succ ws k)
        have HK := Lib.hid (kkOf_w ws k)
        rw [hvd] at HS1 HS2
        clear hvd hv
        go_upto_if 39 with fail
        go_cut [13] from 32 to 68 (fun q wx => q = .int .i64 (kkOf ws k : Nat) ∧ wx = wr)
        case first =>
          by_cases hlw : k < n2
          · obtain ⟨y, hy⟩ : ∃ y, ws[k]? = some y := ⟨_, List.getElem?_eq_getElem (by rw [HX2.out]; omega)⟩
            obtain ⟨y0, y1⟩ := HU2.out y (List.mem_of_getElem? hy)
            obtain ⟨b2, o2', ea2, -, hcell⟩ := hb2.below hbr (by intro h; have h2 : ws = [] := (by simpa using h); rw [h2] at hy; cases hy)
            have hcy := hcell k (.int .u8 y) (by rw [List.getElem?_map, hy]; rfl)
            clear hcell
            cases ea2
            have hlw' : (k : Int) < n2 := by omega
            have HKK : Hid ((kkOf ws k : Int) = if y % 4 = 0 then 1 else if y % 4 = 1 then 2 else if y % 4 = 2 then 4 else 8) := by
              show _ = _
              unfold kkOf
              rw [hy]
              dsimp only
              split
              · rfl
              · split
                · rfl
                · split
                  · rfl
                  · rfl
            clear hy
            rcases wide_cases y with h | h | h | h
            all_goals
              rw [h] at HKK
              go_wp2_with fail
              go_meet
              case rel => exact ⟨by rw [HKK.out]; rfl, rfl⟩
          · have HKK : Hid ((kkOf ws k : Int) = 1) := by
              show _ = _
              unfold kkOf
              rw [List.getElem?_eq_none (by rw [HX2.out]; omega)]
              rfl
            have hlw' : (n2 : Int) ≤ k := by omega
            go_wp2_with fail
            go_meet
            case rel => exact ⟨by rw [HKK.out], rfl⟩
        case rest =>
          obtain ⟨rfl, rfl⟩ := hcut
          obtain ⟨hKw, hK8, hK1⟩ := HK.out
          clear HK
          generalize kkOf ws k = K at *
          have em := mask_and v K v0 v1 hK8
          generalize catB vs ws big k = cb at *
          generalize wantL vs ws k = wl at *
          generalize wideL ws k = dl at *
          generalize v % (256 : Int) ^ K = x at *
          go_wp2_with fail
          refine (put_n B1 N d1 cb v K big _ hKw HN.out o1.rd (by omega) v0 v1).mono ?_
          rintro e w2 ⟨B4, d4, rfl, o4, hb4⟩
          rw [HS1.out] at o4
          have o2' := o2.below hb4
          have o3' := o3.below hb4
          have hz4 := hb4.size
          have o4' := o4.more hzr
          have hb4' := hbr.trans (hb4.mono hzr)
          clear o1 o2 o3 o4 hbr
          go_wp2_with fail
          refine (mask_any K _ hKw).mono ?_
          rintro e w' ⟨rfl, rfl⟩
          generalize maskV K = mk at *
          have hz5 := hb4'.size
          go_wp2_with (first
            | (at_builtin; refine wpList_app _ rfl (.tmp 57) (.tmp 62) 39 rfl w.heap.size 22 (.int .u64 0) 1 8 Try.underlying39 info22 rfl (by decide) B2 k d2 _ rfl (o2'.alloc _) _ _ 1 1 _ rfl rfl (Rd.one _ (.int .u64 x) 22) (one_one rfl) (by unfold maxLen; omega) (by omega) (by simp; omega) ?_; intro B5 d5 w5 o5 hg5 hbk5; have o4'' := (o4'.alloc _).grown hg5 (own_own_ne o4' o2' (by decide)); have o3'' := (o3'.alloc _).grown hg5 (own_own_ne o3' o2' (by decide)); have hb5 := bel_app (hb4'.alloc hz5 _) (o2'.alloc _) (Nat.le_refl _) hg5; have hz6 := hb5.size; clear hg5 hbk5)
            | (at_builtin; refine wpList_app _ rfl (.tmp 64) (.tmp 66) 40 rfl w.heap.size 3 (.int .i64 0) 1 8 Try.underlying40 info3 rfl (by decide) B3 k d3 _ rfl (o3''.alloc _) _ _ 1 1 _ rfl rfl (Rd.one _ (.int .i64 K) 3) (one_one rfl) (by unfold maxLen; omega) (by omega) (by simp; omega) ?_; intro B6 d6 w6 o6 hg6 hbk6))
          have o4e := (o4''.alloc _).grown hg6 (own_own_ne o4'' o3'' (by decide))
          have o5e := (o5.alloc _).grown hg6 (own_own_ne o5 o3'' (by decide))
          have hb6 := bel_app (hb5.alloc hz6 _) (o3''.alloc _) (Nat.le_refl _) hg6
          rw [show u64s wl ++ [.int .u64 x] = u64s (wl ++ [x]) by simp, HS2.out] at o5e
          rw [show i64s dl ++ [.int .i64 K] = i64s (dl ++ [(K : Int)]) by simp, HS3.out] at o6
          go_roundw
          case rel => exact ⟨k + 1, N + K, B4, d4, B5, d5, B6, d6, by omega, by go_num, rfl, rfl, rfl, by rw [← HS1.out, List.length_append, putB_len, HN.out], o4e, o5e, o6, hb6⟩
          case measure => simp [intOf]; omega
      · obtain rfl : k = n := by omega
        have hbN : (N : Int) ≤ 40 := by omega
        (first | (have hd32 : decide (k < n1) = false := by (simp; omega)) | (have hd32 : decide ((k : Int) < 5) = false := by (simp; omega)))
        have HW : Hid (∀ wx, Below wr.heap.size wr wx → ∀ i, i < k → ∃ g o, B2 = some ⟨g, o, none⟩ ∧ wx.cell? ⟨g, o + i, none⟩ = some (.int .u64 (vs.getD i 0 % (256 : Int) ^ kkOf ws i))) := fun wx hb i hi => by
          obtain ⟨g, o, rfl⟩ := o2.at' (by omega)
          exact ⟨g, o, rfl, (o2.below hb).cells i _ (by rw [List.getElem?_map, wantL_get _ _ _ _ hi]; rfl)⟩
        have HD : Hid (∀ wx, Below wr.heap.size wr wx → ∀ i, i < k → ∃ g o, B3 = some ⟨g, o, none⟩ ∧ wx.cell? ⟨g, o + i, none⟩ = some (.int .i64 (kkOf ws i))) := fun wx hb i hi => by
          obtain ⟨g, o, rfl⟩ := o3.at' (by omega)
          exact ⟨g, o, rfl, (o3.below hb).cells i _ (by rw [List.getElem?_map, wideL_get _ _ _ hi]; rfl)⟩
        have HC := Lib.hid (cat_rest vs ws big k)
        have ob : Own wr w.heap.size 5 1 B1 N d1 (u8s (restB vs ws big k 0)) := by rw [← HC.out]; exact o1
        have HN0 : Hid ((restB vs ws big k 0).length = N) := by show _ = _; rw [← HC.out, HN.out]
        clear o1 o2 o3 HC HN hb1 hb2
        go_wp2_with fail
        go_loopw [8, 71] (fun b i wx => ∃ (j M : Nat) (B : Option Addr) (d : Nat), j ≤ k ∧ i = .int .i64 j ∧ b = .slice B M d ∧ M ≤ 40 ∧ (restB vs ws big k j).length = M ∧ Own wx w.heap.size 5 1 B M d (u8s (restB vs ws big k j)) ∧ Below wr.heap.size wr wx) (fun _ i _ => k - (intOf i).toNat)
        case atStart => exact ⟨0, N, B1, d1, Nat.zero_le _, rfl, rfl, by omega, HN0.out, ob, Below.refl _ _⟩
        case round =>
          rename World => wx
          obtain ⟨j, M, B, d, hj, rfl, rfl, hM, hML, o, hbx⟩ := hrel
          have hzx := hbx.size
          by_cases hjk : j < k
          · have hjk' : (j : Int) < k := by omega
            obtain ⟨g2, p2, rfl, hcw⟩ := HW.out wx hbx j hjk
            obtain ⟨g3, p3, rfl, hcd⟩ := HD.out wx hbx j hjk
            obtain ⟨hKw, hK8, hK1⟩ := kkOf_w ws j
            have hrs := rest_succ vs ws big k j hjk
            have hKM : kkOf ws j ≤ M := by rw [hrs, List.length_append, putB_len] at hML; omega
            have hwt : takeB ((restB vs ws big k j).take (kkOf ws j)) big = vs.getD j 0 % (256 : Int) ^ kkOf ws j := by
              rw [hrs, List.take_left' (putB_len _ _ _), take_put]
            have hdr : (restB vs ws big k j).drop (kkOf ws j) = restB vs ws big k (j + 1) := by
              rw [hrs, List.drop_left' (putB_len _ _ _)]
            have hnl : (restB vs ws big k (j + 1)).length = M - kkOf ws j := by
              rw [hrs, List.length_append, putB_len] at hML; omega
            generalize kkOf ws j = K at *
            generalize vs.getD j 0 % (256 : Int) ^ K = x at *
            have C1 : Hid (∀ W A c, Calls Try.prog 24 #[.slice A (K - 1) c, .int .i64 K, .bool big] W fun e w' => e = .returned (.tuple #[.int .u64 0, .slice none 0 0, .int .i64 5]) ∧ w' = W) := fun W A c =>
              (take_short A (K - 1) c K big W hKw (by omega)).mono fun e w' h => ⟨h.1, h.2.symm⟩
            have C2 : Hid (∀ W, Own W w.heap.size 5 1 B M d (u8s (restB vs ws big k j)) → Calls Try.prog 24 #[.slice B M d, .int .i64 K, .bool big] W fun e w' => ∃ A c, e = .returned (.tuple #[.int .u64 x, .slice A (M - K) c, .int .i64 0]) ∧ Own w' W.heap.size 5 1 A (M - K) c (u8s (restB vs ws big k (j + 1))) ∧ Below W.heap.size W w') := fun W ho => by
              refine (take_any B M d (restB vs ws big k j) K big W hKw hKM hML ho.rd ho.2.1 (by omega) ho.2.2.1 (rest_bd _ _ _ _ _)).mono ?_
              rintro e w' ⟨A, c, rfl, ho', hb⟩
              rw [hdr, hnl] at ho' ⊢
              rw [hwt]
              exact ⟨A, c, rfl, ho', hb⟩
            have HNL := Lib.hid hnl
            have hM1 : 0 < M := by omega
            obtain ⟨g1, p1, rfl⟩ := o.at' hM1
            have hd1 : M ≤ d := o.2.1
            have hd2 : d ≤ maxLen := o.2.2.1
            unfold maxLen at hd2
            have hw1 : IntKind.i64.wrap ((K : Int) - 1) = (K : Int) - 1 := by rw [IntKind.wrap_i64]; omega
            have hw2 : ((K : Int) - 1).toNat = K - 1 := by omega
            have hw3 : 0 ≤ (K : Int) - 1 := by omega
            have hw4 : (K : Int) - 1 ≤ d := by omega
            clear hrs hwt hdr hnl hML
            go_wp2_with fail
            go_quiet ((go_at_call 24; exact Calls.quiet_of_same (C1.out _ _ _)))
            go_wp2_with fail
            refine (C2.out _ (o.drewN _)).mono ?_
            rintro e wz ⟨A, c, rfl, oz, hbz⟩
            have hbz' : Below wr.heap.size wr wz := (bel_drewN hbx nq).trans (hbz.mono hzx)
            clear hw1 hw2 hw3 hw4 hcd hcw hKM hM1 hd1 hd2 hKw
            go_wp2_with fail
            go_roundw
            case rel =>
              have hfin : ∃ (j' M' : Nat) (B : Option Addr) (d : Nat), j' ≤ k ∧ Value.int .i64 ((j : Int) + 1) = .int .i64 j' ∧ Value.slice A (M - K) c = .slice B M' d ∧ M' ≤ 40 ∧ (restB vs ws big k j').length = M' ∧ Own wz w.heap.size 5 1 B M' d (u8s (restB vs ws big k j')) ∧ Below wr.heap.size wr wz := ⟨j + 1, M - K, A, c, by omega, by go_num, rfl, by omega, HNL.out, oz.more (Nat.le_trans hzr hzx), hbz'⟩
              first | exact hfin | ((repeat apply Exists.intro); exact ⟨hfin, rfl⟩)
            case measure => simp [intOf]; omega
          · obtain rfl : j = k := by omega
            rw [rest_end] at hML
            have hM0 : M = 0 := by simpa using hML.symm
            subst hM0
            clear hML
            go_wp2_with fail
            go_ret
            exact ⟨rfl, hbr.trans (hbx.mono hzr)⟩
end Go.Proofs.Ytpfcmepiiphbiaa
