/- SumBits: the walk. -/
import Derived.Test.YtpfcmepiiphbiaaSC
namespace Go.Proofs.Ytpfcmepiiphbiaa
open Go.RowKit Go.Maps
set_option linter.unusedVariables false
set_option linter.unusedSimpArgs false
theorem nat_testBit (n i : Nat) : n.testBit i = decide (n / 2 ^ i % 2 = 1) := Nat.testBit_eq_decide_div_mod_eq
theorem own_at {w : World} {base : Nat} {e : TypeId} {size n c : Nat} {A : Option Addr} {xs : List Value} (h : Own w base e size A n c xs) (hn : 0 < n) : ∃ g o, A = some ⟨g, o, none⟩ := by
  cases A with
  | none => have := h.2.2.2.1 rfl; have := h.2.1; omega
  | some a =>
    obtain ⟨g, o, _, rfl, _⟩ := h.2.2.2.2 a rfl
    exact ⟨g, o, rfl⟩
set_option maxRecDepth 100000 in
set_option maxHeartbeats 8000000 in
theorem bits_any (kd : Nat) (A1 : Option Addr) (n1 c1 : Nat) (xs1 : List Int) (at_ tn : Nat) (w : World) (hkd : kd < 256) (hat : at_ < 65536) (htn : tn < 4294967296)
    (hx1 : xs1.length = n1) (hn1 : n1 ≤ c1) (hc1 : c1 ≤ maxLen) (hr1 : Rd w w.heap.size A1 (u8s xs1)) (hA1 : A1 = none → n1 = 0 ∧ c1 = 0) (hu1 : b8 xs1) :
    Calls Try.prog 10 #[.int .u8 kd, .slice A1 n1 c1, .int .u16 at_, .int .u32 tn] w fun e w' => e = .returned (.bool true) ∧ Below w.heap.size w w' := by
  obtain ⟨N, hN⟩ : ∃ N, min n1 300 = N := ⟨_, rfl⟩
  obtain ⟨s, hs, hrs, hus⟩ := few_rd hx1 hr1 hu1 N hN
  obtain ⟨j, hj⟩ : ∃ j, kd % 3 = j := ⟨_, rfl⟩
  have hj3 : j < 3 := by omega
  obtain ⟨k, hkk⟩ : ∃ k, 7 + j = k := ⟨_, rfl⟩
  have hk : k = 7 ∨ k = 8 ∨ k = 9 := by omega
  have hjk : (#[Value.int .u8 7, .int .u8 8, .int .u8 9] : Array Value)[j]? = some (.int .u8 k) := by
    subst hkk
    obtain rfl | rfl | rfl : j = 0 ∨ j = 1 ∨ j = 2 := by omega
    all_goals rfl
  have hj3I : (j : Int) < 3 := by omega
  have e0 : (kd : Int) % 3 = (j : Int) := by omega
  have FW1 := Lib.hid fun (W : World) => few3_any A1 n1 c1 W hn1 (by omega) hA1
  rw [hN] at FW1
  have HJ := Lib.hid hjk
  by_cases hN0 : N = 0
  · subst hN0
    clear hjk hk hkk hj hkd hx1 hr1 hA1 hu1 hrs hus hs hN
    go_enter Try.func10, Try.ntmps10
    go_wp2_with fail
    refine (shown5_any w).mono ?_
    rintro e w1 ⟨rfl, hb1⟩
    have hz1 := hb1.size
    have c9 := ((Blk.new w1 5 _).cell j).trans HJ.out
    go_wp2_with fail
    refine (FW1.out _).mono ?_
    rintro e w' ⟨rfl, rfl⟩
    go_wp2_with fail
    go_ret
    exact ⟨rfl, hb1.alloc hz1 _⟩
  · obtain ⟨M, hM⟩ : ∃ M, 8 * N = M := ⟨_, rfl⟩
    obtain ⟨F, hF⟩ : ∃ F, at_ % M = F := ⟨_, rfl⟩
    have hFM : F < M := by rw [← hF]; exact Nat.mod_lt _ (by omega)
    obtain ⟨Wd, hWd⟩ : ∃ Wd, wideB k = Wd := ⟨_, rfl⟩
    have hWd32 : Wd ≤ 32 := by rw [← hWd]; unfold wideB; split <;> omega
    obtain ⟨fl, hfl⟩ : ∃ fl, flip (posK k) (fun i => tn.testBit i) F s = fl := ⟨_, rfl⟩
    obtain ⟨n, m, hV1, hV2, hnl, hml, hnm⟩ := bits_law k hk s hus (fun i => tn.testBit i) F (by rw [hs, hM]; exact hFM)
    rw [hfl, hWd] at hV2 hnm
    have hfl0 : fl 0 = (s, false) := by rw [← hfl]; rfl
    have hflb : ∀ i, b8 (fl i).1 := fun i => by
      rw [← hfl]
      refine flip_b8 _ _ _ _ hus (fun i hi => ?_) i
      unfold posK; split <;> omega
    have hfll : ∀ i, (fl i).1.length = N := fun i => by rw [← hfl, flip_len]; exact hs
    have hfl1 : ∀ i, (tn.testBit i = false ∨ M ≤ F + i) → fl (i + 1) = fl i := fun i h => by
      rw [← hfl]
      rw [flip, if_pos (by rw [hs, hM]; exact h)]
    have hfl2 : ∀ i, tn.testBit i = true → F + i < M → fl (i + 1) = ((fl i).1.set ((F + i) / 8) ((((fl i).1.getD ((F + i) / 8) 0).toNat ^^^ 2 ^ posK k ((F + i) % 8) : Nat) : Int), true) := fun i h1 h2 => by
      rw [← hfl]
      rw [flip, if_neg (by rw [hs, hM, h1]; simp; omega)]
    have R1 := Lib.hid fun (W : World) (hW : Below w.heap.size w W) => (hrs.below hW).more hW.size
    have HL1 := Lib.hid hs
    have O1 := Lib.hid fun (W : World) (hW : Below w.heap.size w W) => of_any k A1 N c1 s true W hs (R1.out W hW) (fun h => by have := hA1 h; omega) (by omega) (by omega) hc1 hus
    have O2 := Lib.hid fun (W : World) (A : Option Addr) (c : Nat) (h : Own W w.heap.size 5 1 A N c (u8s (fl Wd).1)) => of_own k A N c _ false W h (hfll Wd) (by omega) (hflb Wd)
    unfold OfP at O1 O2
    rw [hV1] at O1
    rw [hV2] at O2
    have HFB := Lib.hid hflb
    have HFL := Lib.hid hfll
    have HF1 := Lib.hid hfl1
    have HF2 := Lib.hid hfl2
    have HF0 := Lib.hid hfl0
    have HNM := Lib.hid hnm
    have HM := Lib.hid hM
    have hM1 : IntKind.i64.wrap (8 * (N : Int)) = (M : Int) := by rw [IntKind.wrap_i64]; omega
    have hM0 : ¬ (M : Int) = 0 := by omega
    have hFI : (at_ : Int) % M = (F : Int) := by rw [← hF, Int.natCast_emod]
    have hFT : (at_ : Int).tmod (M : Int) = (F : Int) := by rw [Int.tmod_eq_emod_of_nonneg (by omega)]; exact hFI
    have h16 : IntKind.i64.wrap (at_ : Int) = (at_ : Int) := by rw [IntKind.wrap_i64]; omega
    have HWd := Lib.hid hWd
    have HK := Lib.hid hk
    have hN300 : N ≤ 300 := by omega
    have hM24 : M ≤ 2400 := by omega
    have HTN := Lib.hid htn
    clear htn hV1 hV2 hnm hfl0 hflb hfll hfl1 hfl2 hfl hWd hF hM hjk hk hkk hj hkd hx1 hr1 hA1 hu1 hrs hus hs hN hat hnl hml
    go_enter Try.func10, Try.ntmps10
    go_wp2_with fail
    refine (shown5_any w).mono ?_
    rintro e w1 ⟨rfl, hb1⟩
    have hz1 := hb1.size
    have c9 := ((Blk.new w1 5 _).cell j).trans HJ.out
    go_wp2_with fail
    refine (FW1.out _).mono ?_
    rintro e w' ⟨rfl, rfl⟩
    have hb2 := hb1.alloc hz1 (.cells #[.int .u8 7, .int .u8 8, .int .u8 9] 5)
    have hz2 := hb2.size
    go_upto_if 36 with fail
    go_cut [12] (fun v wx => v = .int .i64 (Wd : Nat) ∧ Below w.heap.size w wx)
    case first =>
      by_cases h9 : k = 9
      · have hk9 : ((k : Int) == 9) = true := by rw [beq_iff_eq]; omega
        have hW9 : Wd = 32 := by rw [← HWd.out, h9]; rfl
        go_wp2_with fail
        go_meet
        case rel => exact ⟨by rw [hW9]; rfl, hb2⟩
      · have hk9 : ((k : Int) == 9) = false := by rw [beq_eq_false_iff_ne]; omega
        have hW9 : Wd = 16 := by rw [← HWd.out]; unfold wideB; rw [if_neg h9]
        go_wp2_with fail
        go_meet
        case rel => exact ⟨by rw [hW9]; rfl, hb2⟩
    case rest =>
      obtain ⟨rfl, hbc⟩ := hcut
      have hzc := hbc.size
      clear c9
      go_wp2_with (at_builtin; refine wpList_app8 rfl (.tmp 37) (.tmp 38) rfl w.heap.size _ 0 0 [] rfl (Own.zero _ _ hzc) _ N c1 s rfl HL1.out (R1.out _ (hbc.alloc hzc _)) (by omega) (hbc.alloc hzc _).size ?_; intro B1 d1 w3 ho3 hb4; rw [Nat.zero_add, List.nil_append] at ho3; have hb5 := (hbc.alloc hzc _).trans hb4)
      obtain ⟨gy, oy, rfl⟩ := own_at ho3 (by omega)
      clear hb2 hz2 hb1 hz1 hb4 hbc hzc hFI hFT h16 hM0 e0
      go_loopw [15, 47] (fun tv iv wx => ∃ i : Nat, i ≤ Wd ∧ tv = .bool (fl i).2 ∧ iv = .int .i64 (i : Nat) ∧ Own wx w.heap.size 5 1 (some ⟨gy, oy, none⟩) N d1 (u8s (fl i).1) ∧ Below w.heap.size w wx) (fun _ iv _ => Wd - (intOf iv).toNat)
      case atStart => exact ⟨0, Nat.zero_le _, by rw [HF0.out], rfl, by rw [HF0.out]; exact ho3, hb5⟩
      case round =>
        obtain ⟨i, hi, rfl, rfl, hoy, hb⟩ := hrel
        have hz := hb.size
        by_cases hlt : i < Wd
        · have hltI : (i : Int) < Wd := by omega
          obtain ⟨J, hJ⟩ : ∃ J, F + i = J := ⟨_, rfl⟩
          have hJI : IntKind.i64.wrap ((F : Int) + i) = (J : Int) := by rw [IntKind.wrap_i64]; omega
          have hJl : J < 2500 := by omega
          have HTB := nat_testBit tn i
          obtain ⟨q, hq⟩ : ∃ q, tn / 2 ^ i = q := ⟨_, rfl⟩
          have hql : q < 4294967296 := by
            have := HTN.out
            have := Nat.div_le_self tn (2 ^ i)
            omega
          rw [hq] at HTB
          have hmin : min i 32 = i := by omega
          have hqI : (tn : Int) / 2 ^ i = (q : Int) := by rw [← hq, Int.natCast_ediv, Int.natCast_pow]; rfl
          have ha := u32_and1 q hql
          have f1 := HF1.out i
          have f2 := HF2.out i
          rw [hJ] at f1 f2
          have hi0 : (0 : Int) ≤ (i : Int) := by omega
          clear hq
          by_cases hb1 : q % 2 = 1
          · have ha1 : bits .and .u32 (q : Int) 1 = 1 := by rw [ha, hb1]; rfl
            have ht : tn.testBit i = true := by rw [HTB]; simp [hb1]
            clear ha
            by_cases hJM : M ≤ J
            · have hJMI : (M : Int) ≤ J := by omega
              have HE := Lib.hid (f1 (.inr hJM))
              clear f1 f2 HTB ht hb1 hlt hJM hql
              go_wp2_with fail
              go_roundw
              case rel => exact ⟨i + 1, by omega, by rw [HE.out], by go_num, by rw [HE.out]; exact hoy, hb⟩
              case measure => simp [intOf]; omega
            · have hJMI : (J : Int) < M := by omega
              have HE := Lib.hid (f2 ht (by omega))
              obtain ⟨a, ha⟩ : ∃ a, J / 8 = a := ⟨_, rfl⟩
              obtain ⟨b, hb8⟩ : ∃ b, J % 8 = b := ⟨_, rfl⟩
              rw [ha, hb8] at HE
              have haI : (J : Int) / 8 = (a : Int) := by omega
              have hbI : (J : Int) % 8 = (b : Int) := by omega
              have hM8 := HM.out
              have haN : a < N := by omega
              have haNI : (a : Int) < N := by omega
              have hb7 : b < 8 := by omega
              obtain ⟨p, hp⟩ : ∃ p, posK k b = p := ⟨_, rfl⟩
              rw [hp] at HE
              have hp8 : p < 8 := by rw [← hp]; unfold posK; split <;> omega
              obtain ⟨x, hx⟩ : ∃ x, (fl i).1[a]? = some x := ⟨_, List.getElem?_eq_getElem (by rw [HFL.out]; exact haN)⟩
              have hxd : (fl i).1.getD a 0 = x := by rw [List.getD_eq_getElem?_getD, hx]; rfl
              rw [hxd] at HE
              have hxb := HFB.out i x (List.mem_of_getElem? hx)
              obtain ⟨v, rfl⟩ := Int.eq_ofNat_of_zero_le hxb.1
              rw [Int.toNat_natCast] at HE
              have cx : wr.cell? ⟨gy, oy + a, none⟩ = some (.int .u8 v) := hoy.cells a _ (by rw [List.getElem?_map, hx]; rfl)
              have fx := hoy.frozen
              have hpp : 2 ^ p < 256 := by
                have : 2 ^ p ≤ 2 ^ 7 := Nat.pow_le_pow_right (by decide) (by omega)
                omega
              have hxx := u8_xor_nat v (2 ^ p) (by omega) hpp
              obtain ⟨P, hP⟩ : ∃ P, 2 ^ p = P := ⟨_, rfl⟩
              rw [hP] at hxx hpp
              obtain ⟨y, hy⟩ : ∃ y, v ^^^ P = y := ⟨_, rfl⟩
              rw [hP, hy] at HE
              rw [hy] at hxx
              have hP8 : (2 : Int) ^ p = (P : Int) := by rw [← hP, Int.natCast_pow]; rfl
              have hmp : min p 8 = p := by omega
              have hPw : IntKind.u8.wrap (P : Int) = (P : Int) := by rw [IntKind.wrap_u8]; omega
              have hset := hoy.set_ a (by omega) (.int .u8 (y : Nat))
              rw [u8s_set] at hset
              have HS := Lib.hid hset
              have hgl := (hoy.lt (g := gy) rfl).1
              have hb9 : Below w.heap.size w (wr.drew.setCell ⟨gy, oy + a, none⟩ (.int .u8 (y : Nat))) := (hb.drew).grown (grown_set (grown_refl _ _) _ _) hz (fun k hk => by injection hk with hk; omega)
              have HB9 := Lib.hid hb9
              have hb7I : (b : Int) ≤ 7 := by omega
              have hpI0 : (0 : Int) ≤ (p : Int) := by omega
              clear f1 f2 HTB ht hb1 hlt hJM hql hx hxd hxb ha hb8 hM8 hset hb9 hy hP
              by_cases h8 : k = 8
              · have hk8 : ((k : Int) == 8) = true := by rw [beq_iff_eq]; omega
                have hpb : (7 : Int) - b = (p : Int) := by
                  have : 7 - b = p := by rw [← hp]; unfold posK; rw [if_pos h8]
                  omega
                clear hp h8
                go_wp2_with fail
                go_region
                all_goals
                  go_wp2_with fail
                  go_roundw
                  case rel => exact ⟨i + 1, by omega, by rw [HE.out], by go_num, by rw [HE.out]; exact HS.out, HB9.out⟩
                  case measure => simp [intOf]; omega
              · have hk8 : ((k : Int) == 8) = false := by rw [beq_eq_false_iff_ne]; omega
                have hpb : b = p := by rw [← hp]; unfold posK; rw [if_neg h8]
                subst hpb
                clear hp h8
                go_wp2_with fail
                go_region
                all_goals
                  go_wp2_with fail
                  go_roundw
                  case rel => exact ⟨i + 1, by omega, by rw [HE.out], by go_num, by rw [HE.out]; exact HS.out, HB9.out⟩
                  case measure => simp [intOf]; omega
          · have hb0 : q % 2 = 0 := by omega
            have ha1 : bits .and .u32 (q : Int) 1 = 0 := by rw [ha, hb0]; rfl
            have ht : tn.testBit i = false := by rw [HTB]; simp [hb0]
            have HE := Lib.hid (f1 (.inl ht))
            clear ha f1 f2 HTB ht hb1 hb0 hlt hql
            go_wp2_with fail
            go_roundw
            case rel => exact ⟨i + 1, by omega, by rw [HE.out], by go_num, by rw [HE.out]; exact hoy, hb⟩
            case measure => simp [intOf]; omega
        · obtain rfl : i = Wd := by omega
          clear hlt hi
          obtain ⟨T, hT⟩ : ∃ T, (fl i).2 = T := ⟨_, rfl⟩
          have HN2 := HNM.out
          rw [hT] at HN2
          rw [hT]
          go_wp2_with fail
          refine (O1.out _ hb).mono ?_
          rintro e w4 ⟨rfl, hb6⟩
          have hb7 := hb.trans (hb6.mono hz)
          go_wp2_with fail
          refine (O2.out _ _ _ (hoy.below hb6)).mono ?_
          rintro e w5 ⟨rfl, hb8⟩
          have hb9 := hb7.trans (hb8.mono hb7.size)
          clear hT
          go_wp2_with fail
          go_ret
          exact ⟨rfl, hb9⟩
end Go.Proofs.Ytpfcmepiiphbiaa
