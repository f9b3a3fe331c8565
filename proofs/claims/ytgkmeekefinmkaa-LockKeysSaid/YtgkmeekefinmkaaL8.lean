/- LockParts: the walk. -/
import Derived.Test.YtgkmeekefinmkaaL6
namespace Go.Proofs.Ytgkmeekefinmkaa
open Go.RowKit
set_option linter.unusedVariables false
set_option linter.unusedSimpArgs false
theorem res_self (r : Int) (h : isRes r = true) : m13 r = r ∧ bits .and .u8 r r ≠ 0 := by
  rcases (isRes_iff r).1 h with rfl | rfl | rfl <;> decide
theorem three_at (which : Int) (h0 : 0 ≤ which) : ∃ (k : Nat) (r : Int), which % 3 = (k : Int) ∧ k < 3 ∧ #[Value.int .u8 1, .int .u8 4, .int .u8 8][k]? = some (.int .u8 r) ∧ isRes r = true ∧ 0 ≤ r ∧ r < 256 := by
  obtain ⟨k, hk⟩ : ∃ k : Nat, which % 3 = (k : Int) := ⟨(which % 3).toNat, by omega⟩
  have : k = 0 ∨ k = 1 ∨ k = 2 := by omega
  rcases this with rfl | rfl | rfl
  · exact ⟨0, 1, hk, by decide, rfl, by decide, by decide, by decide⟩
  · exact ⟨1, 4, hk, by decide, rfl, by decide, by decide, by decide⟩
  · exact ⟨2, 8, hk, by decide, rfl, by decide, by decide, by decide⟩
theorem seed0_eq (r : Int) (s : List Int) (hr : isRes r = true) (h1 : 1 ≤ s.length) (h2 : s.length ≤ 20) : seedX ⟨r, r, none⟩ 0 r s = (⟨r, r, some ⟨s, r, 0 + ((s.drop 0).take 6).length, []⟩⟩, (s.length : Int), (s.drop 0).take 6, 0) := by
  unfold seedX
  rw [if_pos rfl, if_neg (by rw [hr]; rintro (h | h | h) <;> first | omega | cases h), if_neg (res_self r hr).2]
  rfl
theorem seed1_eq (r : Int) (s : List Int) (t : Nat) (ht : t < s.length) : seedX ⟨r, r, some ⟨s, r, t, []⟩⟩ 1 r [] = (⟨r, r, some ⟨s, r, t + ((s.drop t).take 6).length, []⟩⟩, ((s.length - t : Nat) : Int), (s.drop t).take 6, 0) := by
  unfold seedX
  rw [if_neg (by decide), if_pos rfl]
  dsimp only
  rw [if_neg (by omega)]
  rfl
theorem seed1_end (r : Int) (s : List Int) (t : Nat) (ht : t = s.length) : seedX ⟨r, r, some ⟨s, r, t, []⟩⟩ 1 r [] = (⟨r, r, some ⟨s, r, t, []⟩⟩, 0, [], 90) := by
  unfold seedX
  rw [if_neg (by decide), if_pos rfl]
  dsimp only
  rw [if_pos ht]
theorem seed1_none (r : Int) : seedX ⟨r, r, none⟩ 1 r [] = (⟨r, r, none⟩, 0, [], 90) := rfl
set_option maxRecDepth 100000 in
set_option maxHeartbeats 8000000 in
theorem parts_any (which : Int) (A : Option Addr) (n c : Nat) (xs : List Int) (stop : Int) (w : World) (hw0 : 0 ≤ which) (hw1 : which < 256) (hs0 : 0 ≤ stop) (hs1 : stop < 256)
    (hx : xs.length = n) (hn : n ≤ c) (hc : c ≤ maxLen) (hr : Rd w w.heap.size A (u8s xs)) (hA : A = none → n = 0 ∧ c = 0) (hu : by8 xs) :
    Calls Try.prog 3 #[.int .u8 which, .slice A n c, .int .u8 stop] w fun e w' => e = .returned (.bool true) ∧ Below w.heap.size w w' := by
  unfold maxLen at hc
  obtain ⟨N, hN⟩ : ∃ N, min n 20 = N := ⟨_, rfl⟩
  have hNn : N ≤ n := by omega
  have hNc : N ≤ c := by omega
  have hN20 : N ≤ 20 := by omega
  obtain ⟨s, hys⟩ : ∃ s, xs.take N = s := ⟨_, rfl⟩
  have hsl : s.length = N := by rw [← hys, List.length_take]; omega
  have hrs : Rd w w.heap.size A (u8s s) := by rw [← hys]; exact hr.take' N
  have hus : by8 s := fun x hx => hu x (List.mem_of_mem_take (by rw [hys]; exact hx))
  obtain ⟨k3, r, hk3, hk3l, hk3v, hres, hr0, hr1⟩ := three_at which hw0
  obtain ⟨hm13, hrr⟩ := res_self r hres
  have LN := fun W hW => lnew_any r W w.heap.size (fun _ => False) hW hr0 hr1
  rw [hm13] at LN
  have LN := Lib.hid LN
  have HSL := Lib.hid hsl
  have HK := Lib.hid hk3v
  have h3I : (k3 : Int) < 3 := by omega
  clear hr hx hu hys hm13 hrr hsl hk3v
  go_enter Try.func3, Try.ntmps3
  go_wp2_with fail
  refine (shown_any w).mono ?_
  rintro e w1 ⟨rfl, hb1⟩
  have hz1 := hb1.size
  have c3 : (w1.alloc (.cells #[.int .u8 1, .int .u8 4, .int .u8 8] 5)).cell? ⟨w1.heap.size, k3, none⟩ = some (.int .u8 r) := ((Blk.new w1 5 #[.int .u8 1, .int .u8 4, .int .u8 8]).cell k3).trans HK.out
  go_upto_region 3 with fail
  refine wp_named fun W hW => ?_
  obtain ⟨BW, hbW⟩ := blk1 hW
  clear hW c3
  have b2 := hb1.trans (hbW.mono hz1)
  have hzW := hbW.size
  go_cut [9] (fun v wx => v = .slice A N c ∧ wx = W)
  case first =>
    by_cases h30 : n ≤ 20
    · obtain rfl : N = n := by omega
      go_wp2_with fail
      go_meet
      case rel => exact ⟨rfl, rfl⟩
    · have h30' : 20 < n := by omega
      obtain rfl : N = 20 := by omega
      go_wp2_with fail
      go_meet
      case rel => exact ⟨rfl, rfl⟩
  case rest =>
    obtain ⟨rfl, rfl⟩ := hcut
    clear hN BW
    go_wp2_with fail
    refine (LN.out wc (by omega)).mono ?_
    rintro e w2 ⟨rfl, hL, hb2⟩
    have hz2 := hb2.size
    have b3 := b2.trans (hb2.mono (by omega))
    by_cases hN0 : N = 0
    · subst hN0
      go_wp2_with fail
      go_ret
      exact ⟨rfl, b3⟩
    · have hN1 : 1 ≤ N := by omega
      have e0 : ((N : Int) == 0) = false := beq_eq_false_iff_ne.2 (by omega)
      have SD := seed_any hL (by omega) 0 r (by decide) hr0 hr1 A N c s HSL.out (By.of_rd (hrs.below b3) (by omega)) hus
      rw [seed0_eq r s hres (by rw [HSL.out]; exact hN1) (by rw [HSL.out]; exact hN20)] at SD
      rw [HSL.out] at SD
      have SD := Lib.hid SD
      clear LN hL
      go_wp2_with fail
      refine SD.out.mono ?_
      rintro e w3 ⟨A3, m3, c3, rfl, hm3, ho3, hL3, hc3⟩
      have hz3 := hc3.size
      have b4 : Below w.heap.size w w3 := b3.trans (hc3.below (by omega))
      clear SD
      dsimp only at hm3 ho3
      have hL3 : LAt w3 w.heap.size (fun i => i < w3.heap.size) wc.heap.size ⟨r, r, some ⟨s, r, 0 + ((s.drop 0).take 6).length, []⟩⟩ := hL3.imp (fun i hi => Or.elim hi False.elim And.right)
      go_wp2_with fail
      go_loopw [11, 12, 13, 14, 15] (fun gv nv bv ev iv wr => ∃ (i t mb : Nat) (Ag : Option Addr) (cg : Nat) (Ab : Option Addr) (cb : Nat), t = 6 * i ∧ t < N ∧ mb = min 6 (N - t) ∧ gv = .slice Ag t cg ∧ nv = .int .i64 ((N : Int) - (t : Int)) ∧ bv = .slice Ab mb cb ∧ ev = .int .i64 0 ∧ iv = .int .i64 i ∧ Own wr w3.heap.size 5 1 Ag t cg (u8s (s.take t)) ∧ w3.heap.size ≤ wr.heap.size ∧ Own wr 0 5 1 Ab mb cb (u8s ((s.drop t).take 6)) ∧ LAt wr w.heap.size (fun i => i < w3.heap.size) wc.heap.size ⟨r, r, some ⟨s, r, t + mb, []⟩⟩ ∧ Below w.heap.size w wr) (fun _ _ _ _ iv _ => 4 - (intOf iv).toNat)
      case atStart =>
        have hm3' : m3 = min 6 (N - 0) := by rw [← hm3, List.length_take, List.length_drop, HSL.out]
        refine ⟨0, 0, m3, none, 0, A3, c3, rfl, by omega, hm3', rfl, congrArg (Value.int .i64) (by omega), rfl, rfl, rfl, Own.nil _ _ _ _, Nat.le_refl _, ho3.more (Nat.zero_le _), ?_, b4⟩
        rw [hm3] at hL3
        exact hL3
      case round =>
        obtain ⟨i, t, mb, Ag, cg, Ab, cb, ht, htN, hmb, rfl, rfl, rfl, rfl, rfl, hog, hz3r, hob, hL, hb⟩ := hrel
        have hzr := hb.size
        clear hL3 ho3 hm3 b4
        have hi4 : (i : Int) < 9 := by omega
        have hi3 : i ≤ 3 := by omega
        have HT := Lib.hid ht
        clear ht
        have hbl : ((s.drop t).take 6).length = mb := by rw [List.length_take, List.length_drop, HSL.out, hmb]
        have hblu : (u8s ((s.drop t).take 6)).length = mb * 1 := by rw [List.length_map, hbl, Nat.mul_one]
        have hmb6 : mb ≤ 6 := by omega
        have hcat : u8s (s.take t) ++ u8s ((s.drop t).take 6) = u8s (s.take (t + 6)) := by rw [u8s, u8s, ← List.map_append, ← List.take_add]
        have HCAT := Lib.hid hcat
        have HBLU := Lib.hid hblu
        have HBL := Lib.hid hbl
        clear hcat hbl hblu
        by_cases hlast : N - t ≤ 6
        · have hmbN : t + mb = N := by omega
          have hI : (N : Int) - (t : Int) = (mb : Int) := by omega
          have hmI : (mb : Int) ≤ 6 := by omega
          have hEq : (((t : Int) + (mb : Int)) == (N : Int)) = true := beq_iff_eq.2 (by omega)
          have hsall : s.take (t + 6) = s := List.take_of_length_le (by rw [HSL.out]; omega)
          have HSA := Lib.hid hsall
          have HMN := Lib.hid hmbN
          clear hmbN hsall hmb
          go_upto_region 15 with (at_builtin; refine wpList_app _ rfl (.tmp 82) (.tmp 83) 22 rfl w3.heap.size 5 (.int .u8 0) 1 1 Try.underlying22 info5 rfl (by decide) Ag t cg _ rfl hog _ _ mb cb _ rfl HBLU.out hob.rd (u8s_one _) (by unfold maxLen; omega) (by omega) hz3r ?_; intro A6 c6 w6 ho6 hg6 hbk6)
          have ho6' : Own w6 w3.heap.size 5 1 A6 N c6 (u8s s) := by
            rw [← HMN.out, ← HSA.out, ← HCAT.out]
            exact ho6
          have hL6 := hL.grown hg6 (fun i hi => ⟨by have := (hog.lt hi).1; omega, hog.row hi⟩)
          have hb6 : Below w.heap.size w w6 := bel_grown' hb hzr (hog.more (by omega)) hg6
          have hz6 := hb6.size
          have S1 := seed_one hL6 hz6 r (.slice none 0 0)
          rw [seed1_end r s _ (by rw [HSL.out]; exact HMN.out)] at S1
          have S1 := Lib.hid S1
          clear ho6 hg6 hbk6 hog hob hL hb
          go_wp2_with fail
          refine S1.out.mono ?_
          rintro e w7 ⟨A7, m7, c7, rfl, hm7, ho7, hL7, hc7⟩
          obtain rfl : m7 = 0 := hm7.symm
          have hb7 : Below w.heap.size w w7 := hb6.trans (hc7.below hz6)
          have hz7 := hb7.size
          have ho67 := ho6'.chT hc7 (by decide)
          have K := Lib.hid (key_any A N c s r w7 HSL.out ((hrs.below hb7).more hz7) (by omega) hr0 hr1)
          clear S1 ho6' ho7 hm7
          go_wp2_with fail
          refine K.out.mono ?_
          rintro e w8 ⟨A8, c8, rfl, ho8, hb8⟩
          have hb8' := hb7.trans (hb8.mono hz7)
          have hL8 := hL7.below hb8
          have ho68 := ho67.below hb8
          have hc8 := ho8.2.1
          have hc8' := ho8.2.2.1
          unfold maxLen at hc8'
          have UN := Lib.hid (fun q => unlock_no hL8 ((N : Int) + 1) A8 q c8 (by omega) (by omega))
          have UN := Lib.hid (fun q (hq : q ≤ maxLen) => UN.out q hq (fun d hd => by
            simp only [Option.some.injEq] at hd
            subst hd
            rintro ⟨-, h2, -⟩
            have h2' : (N : Int) + 1 = ((s.length - 0 : Nat) : Int) := h2
            rw [HSL.out] at h2'
            omega))
          have NX : Hid (∀ w9, UnP w8 w.heap.size (fun i => i < w3.heap.size) wc.heap.size (⟨r, r, none⟩, 90) (.returned (.int .i64 90)) w9 → ∀ q, q ≤ maxLen → Calls Try.prog 12 #[.pointer (some ⟨wc.heap.size, 0, none⟩), .int .i64 N, .slice A8 q c8] w9 fun e w' => e = .returned (.int .i64 90) ∧ LAt w' w.heap.size (fun i => i < w3.heap.size) wc.heap.size ⟨r, r, none⟩ ∧ Below w.heap.size w w' ∧ (∀ w2, Below w'.heap.size w' w2 → (convert 22 9 (.slice A6 (t + mb) c6)).run Try.prog w2 = .ok (.string (bstr s)) w2) ∧ (∀ w2, Below w'.heap.size w' w2 → (convert 22 9 (.slice A N c)).run Try.prog w2 = .ok (.string (bstr s)) w2)) := Lib.hid (by
            rintro w9 ⟨-, hL9, hc9⟩ q hq
            have hz9 := hc9.size
            have hz8 := hb8'.size
            refine (unlock_no hL9 (N : Int) A8 q c8 (by omega) (by omega) hq (fun d hd => by cases hd)).mono ?_
            rintro e w10 ⟨rfl, hL10, hc10⟩
            have hb10 : Below w.heap.size w w10 := (hb8'.trans (hc9.below hz8)).trans (hc10.below (by omega))
            have ho10 := (ho68.chT hc9 (by decide)).chT hc10 (by decide)
            exact ⟨rfl, hL10, hb10, ho10.conv (n := t + mb) (P := Try.prog) (src := 22) (dst := 9) (e := 5) rfl rfl rfl (by rw [HSL.out]; exact HMN.out), ((hrs.below hb10)).conv (n := N) (P := Try.prog) (src := 22) (dst := 9) (e := 5) rfl rfl rfl hb10.size HSL.out.symm⟩)
          clear K hL7 hL8 ho67 ho68 ho8
          by_cases hN6 : N ≤ 6
          case' pos =>
            have hN6I : (N : Int) ≤ 6 := by omega
            have U1 := Lib.hid (UN.out N (by unfold maxLen; omega))
            have U2 := Lib.hid (fun w9 h => NX.out w9 h N (by unfold maxLen; omega))
          case' neg =>
            have hN6I : (6 : Int) < N := by omega
            have hc8I : (6 : Int) ≤ c8 := by omega
            have U1 := Lib.hid (UN.out 6 (by unfold maxLen; omega))
            have U2 := Lib.hid (fun w9 h => NX.out w9 h 6 (by unfold maxLen; omega))
          all_goals
            clear UN NX
            go_wp2_with fail
            refine U1.out.mono ?_
            rintro e w9 hU
            obtain rfl := hU.1
            go_wp2_with fail
            refine (U2.out w9 hU).mono ?_
            rintro e w10 ⟨rfl, hL10, hb10, cv1, cv2⟩
            have cv1 := cv1 w10 (Below.refl _ _)
            have cv2 := cv2 w10 (Below.refl _ _)
            go_wp2_with fail
            refine (locked_any hL10).mono ?_
            rintro e w' ⟨rfl, rfl⟩
            go_wp2_with fail
            go_ret
            exact ⟨rfl, hb10⟩
        · have hlast' : 6 < N - t := by omega
          obtain rfl : mb = 6 := by omega
          have hlI : (6 : Int) < (N : Int) - (t : Int) := by omega
          have hEq : (((t : Int) + 6) == (N : Int)) = false := beq_eq_false_iff_ne.2 (by omega)
          have htN6 : t + 6 < N := by omega
          have hN6 : (6 : Int) < N := by omega
          clear hmb
          go_upto_region 15 with (at_builtin; refine wpList_app _ rfl (.tmp 82) (.tmp 83) 22 rfl w3.heap.size 5 (.int .u8 0) 1 1 Try.underlying22 info5 rfl (by decide) Ag t cg _ rfl hog _ _ 6 cb _ rfl HBLU.out hob.rd (u8s_one _) (by unfold maxLen; omega) (by omega) hz3r ?_; intro A6 c6 w6 ho6 hg6 hbk6)
          have ho6' : Own w6 w3.heap.size 5 1 A6 (t + 6) c6 (u8s (s.take (t + 6))) := by
            rw [← HCAT.out]
            exact ho6
          have hL6 := hL.grown hg6 (fun i hi => ⟨by have := (hog.lt hi).1; omega, hog.row hi⟩)
          have hb6 : Below w.heap.size w w6 := bel_grown' hb hzr (hog.more (by omega)) hg6
          have hz6 := hb6.size
          have hz36 : w3.heap.size ≤ w6.heap.size := by have := hg6.size; omega
          clear ho6 hg6 hbk6 hog hob hL hb
          by_cases hst : stop % 5 = (i : Int)
          · have hK := Lib.hid (key_any A N c s r w6 HSL.out ((hrs.below hb6).more hz6) (by omega) hr0 hr1)
            go_wp2_with fail
            refine hK.out.mono ?_
            rintro e w8 ⟨A8, c8, rfl, ho8, hb8⟩
            have hb8' := hb6.trans (hb8.mono hz6)
            have hz8 := hb8'.size
            have hc8 := ho8.2.1
            have hc8' := ho8.2.2.1
            unfold maxLen at hc8'
            have hc8I : (6 : Int) ≤ c8 := by omega
            have U1 := Lib.hid (unlock_no (hL6.below hb8) (N : Int) A8 6 c8 (by omega) (by omega) (by decide) (fun d hd => by
              simp only [Option.some.injEq] at hd
              subst hd
              rintro ⟨h1, -, -⟩
              have h1' : t + 6 = s.length := h1
              rw [HSL.out] at h1'
              omega))
            go_wp2_with fail
            refine U1.out.mono ?_
            rintro e w9 ⟨rfl, hL9, hc9⟩
            have hb9 : Below w.heap.size w w9 := hb8'.trans (hc9.below hz8)
            have hz9 := hb9.size
            have S1 := seed_one hL9 hz9 r (.slice none 0 0)
            dsimp only at S1
            rw [seed1_none r] at S1
            have S1 := Lib.hid S1
            go_wp2_with fail
            refine S1.out.mono ?_
            rintro e w10 ⟨A7, m7, c7, rfl, hm7, ho7, hL10, hc10⟩
            have hb10 : Below w.heap.size w w10 := hb9.trans (hc10.below hz9)
            go_wp2_with fail
            refine (locked_any hL10).mono ?_
            rintro e w' ⟨rfl, rfl⟩
            go_wp2_with fail
            go_ret
            exact ⟨rfl, hb10⟩
          · have hst' : (stop % 5 == (i : Int)) = false := by simpa using hst
            have S1 := seed_one hL6 hz6 r (.slice none 0 0)
            rw [seed1_eq r s (t + 6) (by rw [HSL.out]; exact htN6)] at S1
            have S1 := Lib.hid S1
            go_wp2_with fail
            refine S1.out.mono ?_
            rintro e w7 ⟨A7, m7, c7, rfl, hm7, ho7, hL7, hc7⟩
            have hb7 : Below w.heap.size w w7 := hb6.trans (hc7.below hz6)
            have hz67 := hc7.size
            dsimp only at hm7
            have hm7' : m7 = min 6 (N - (t + 6)) := by rw [← hm7, List.length_take, List.length_drop, HSL.out]
            dsimp only at hL7 ho7
            rw [hm7] at hL7
            have HO := Lib.hid (ho6'.chT hc7 (by decide))
            have HB := Lib.hid (ho7.more (Nat.zero_le _))
            have HL := Lib.hid hL7
            have HM := Lib.hid hm7'
            clear hm7 hm7' ho7 hL7 ho6' hL6 S1
            go_wp2_with fail
            go_roundw
            case rel => exact ⟨i + 1, t + 6, m7, A6, c6, A7, c7, by have := HT.out; omega, htN6, HM.out, rfl, congrArg (Value.int .i64) (by have := HSL.out; omega), rfl, rfl, by go_num, HO.out, by omega, HB.out, HL.out, hb7⟩
            case measure => simp [intOf]; omega
end Go.Proofs.Ytgkmeekefinmkaa
