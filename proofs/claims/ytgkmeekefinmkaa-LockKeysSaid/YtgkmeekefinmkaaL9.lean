/- whole: a resource is unlocked by bytes as a key, in parts. -/
import Derived.Test.YtgkmeekefinmkaaL8
namespace Go.Proofs.Ytgkmeekefinmkaa
open Go.RowKit
set_option linter.unusedVariables false
set_option linter.unusedSimpArgs false
def slLen (v : Value) : Nat := match v with | .slice _ m _ => m | _ => 0
theorem seed1_eq' (a b r r' : Int) (s : List Int) (t : Nat) (ht : t < s.length) : seedX ⟨a, b, some ⟨s, r, t, []⟩⟩ 1 r' [] = (⟨a, b, some ⟨s, r, t + ((s.drop t).take 6).length, []⟩⟩, ((s.length - t : Nat) : Int), (s.drop t).take 6, 0) := by
  unfold seedX
  rw [if_neg (by decide), if_pos rfl]
  dsimp only
  rw [if_neg (by omega)]
  rfl
theorem and13 (r : Int) (h : isRes r = true) : bits .and .u8 13 r = r ∧ r ≠ 0 := by
  rcases (isRes_iff r).1 h with rfl | rfl | rfl <;> decide
theorem seed0_eq' (r : Int) (s : List Int) (hr : isRes r = true) (h1 : 1 ≤ s.length) (h2 : s.length ≤ 20) : seedX ⟨13, 13, none⟩ 0 r s = (⟨13, 13, some ⟨s, r, 0 + ((s.drop 0).take 6).length, []⟩⟩, (s.length : Int), (s.drop 0).take 6, 0) := by
  unfold seedX
  rw [if_pos rfl, if_neg (by rw [hr]; rintro (h | h | h) <;> first | omega | cases h), if_neg (by show ¬ bits .and .u8 13 r = 0; rw [(and13 r hr).1]; exact (and13 r hr).2)]
  rfl
theorem unlock_mid (r : Int) (s ks : List Int) (j N : Nat) (hs : s.length = N) (hk : ks.length = N) (h : j + 6 < N) : unlockX ⟨13, 13, some ⟨s, r, N, ks.take j⟩⟩ ((N - j : Nat) : Int) ((ks.drop j).take 6) = (⟨13, 13, some ⟨s, r, N, ks.take (j + 6)⟩⟩, 0) := by
  have hl : (ks.take j).length = j := by rw [List.length_take]; omega
  have hl6 : ((ks.drop j).take 6).length = 6 := by rw [List.length_take, List.length_drop]; omega
  unfold unlockX
  dsimp only
  rw [if_pos ⟨hs.symm, by rw [hl, hs], by rw [hl6]; omega⟩, if_pos (by rw [List.length_append, hl, hl6, hs]; exact h), ← List.take_add]
theorem unlock_fin (r : Int) (s ks : List Int) (j N : Nat) (hr : isRes r = true) (hs : s.length = N) (hk : ks.length = N) (h : j < N) (h6 : N ≤ j + 6) : unlockX ⟨13, 13, some ⟨s, r, N, ks.take j⟩⟩ ((N - j : Nat) : Int) (ks.drop j) = if ks = keyL s r then (⟨13, 13 - r, none⟩, 0) else (⟨13, 13, none⟩, 91) := by
  have hl : (ks.take j).length = j := by rw [List.length_take]; omega
  have hl6 : (ks.drop j).length = N - j := by rw [List.length_drop]; omega
  unfold unlockX
  dsimp only
  rw [if_pos ⟨hs.symm, by rw [hl, hs], by rw [hl6]; omega⟩, if_neg (by rw [List.length_append, hl, hl6, hs]; omega), List.take_append_drop, (and13 r hr).1]
set_option maxRecDepth 100000 in
set_option maxHeartbeats 8000000 in
theorem whole_any {w : World} {B l : Nat} {Φ : Nat → Prop} (h : LAt w B Φ l ⟨13, 13, none⟩) (hB : B ≤ w.heap.size) (r : Int) (hr : isRes r = true) (hr0 : 0 ≤ r) (hr1 : r < 256) (A : Option Addr) (N c : Nat) (s : List Int) (hs : s.length = N) (hb : By B 5 w A (u8s s)) (hu : by8 s) (hN1 : 1 ≤ N) (hN2 : N ≤ 20)
    (b o d : Nat) (ks : List Int) (hk : ks.length = N) (hkb : By B 5 w (some ⟨b, o, none⟩) (u8s ks)) (hku : by8 ks) (hd : N ≤ d) (hd2 : d ≤ maxLen) :
    Calls Try.prog 21 #[.pointer (some ⟨l, 0, none⟩), .int .u8 r, .slice A N c, .slice (some ⟨b, o, none⟩) N d] w fun e w' => e = .returned (.int .i64 (if ks = keyL s r then 0 else 91)) ∧ LAt w' B (fun _ => True) l (if ks = keyL s r then ⟨13, 13 - r, none⟩ else ⟨13, 13, none⟩) ∧ ChT B [49, 51] w w' := by
  unfold maxLen at hd2
  have SD := seed_any h hB 0 r (by decide) hr0 hr1 A N c s hs hb hu
  rw [seed0_eq' r s hr (by rw [hs]; exact hN1) (by rw [hs]; exact hN2), hs] at SD
  have SD := Lib.hid SD
  have HS := Lib.hid hs
  have HK := Lib.hid hk
  clear h hs hk
  go_enter Try.func21, Try.ntmps21
  go_wp2_with fail
  refine SD.out.mono ?_
  rintro e w1 ⟨A1, m1, c1, rfl, hm1, ho1, hL1, hc1⟩
  dsimp only at hm1 ho1
  have hL1 : LAt w1 B (fun _ => True) l ⟨13, 13, some ⟨s, r, 0 + ((s.drop 0).take 6).length, []⟩⟩ := hL1.imp (fun _ _ => trivial)
  have hm1' : m1 = min 6 (N - 0) := by rw [← hm1, List.length_take, List.length_drop, HS.out]
  have hz1 := hc1.size
  have HM1 := Lib.hid hm1'
  have HM1' := Lib.hid hm1
  clear SD hm1 hm1'
  go_wp2_with fail
  go_loopw [9, 10, 11] (fun nv bv ev wr => ∃ (t mb : Nat) (Ab : Option Addr) (cb : Nat), t < N ∧ mb = min 6 (N - t) ∧ nv = .int .i64 ((N : Int) - (t : Int)) ∧ bv = .slice Ab mb cb ∧ ev = .int .i64 0 ∧ LAt wr B (fun _ => True) l ⟨13, 13, some ⟨s, r, t + mb, []⟩⟩ ∧ ChT B [49, 51] w wr) (fun nv _ _ _ => (intOf nv).toNat)
  case atStart =>
    refine ⟨0, m1, A1, c1, by omega, HM1.out, congrArg (Value.int .i64) (by omega), rfl, rfl, ?_, hc1⟩
    rw [HM1'.out] at hL1
    exact hL1
  case round =>
    rename World => wr
    clear hL1 ho1 hc1
    obtain ⟨t, mb, Ab, cb, htN, hmb, rfl, rfl, rfl, hL, hc⟩ := hrel
    have hzr := hc.size
    have hmb1 : (0 : Int) < mb := by omega
    by_cases hmore : t + 6 < N
    · have hm6 : mb = 6 := by omega
      subst hm6
      have hgt : (6 : Int) < (N : Int) - (t : Int) := by omega
      have S1 := seed_one hL (by omega) r (.slice none 0 0)
      rw [seed1_eq' 13 13 r r s (t + 6) (by rw [HS.out]; exact hmore)] at S1
      have S1 := Lib.hid S1
      clear hmb hL
      go_wp2_with fail
      refine S1.out.mono ?_
      rintro e w7 ⟨A7, m7, c7, rfl, hm7, ho7, hL7, hc7⟩
      dsimp only at hm7 hL7
      have hm7' : m7 = min 6 (N - (t + 6)) := by rw [← hm7, List.length_take, List.length_drop, HS.out]
      rw [hm7] at hL7
      have HL := Lib.hid hL7
      have HM := Lib.hid hm7'
      have HC := Lib.hid (hc.trans hc7)
      clear hm7 hm7' ho7 hL7 S1
      go_wp2_with fail
      go_roundw
      case rel => exact ⟨t + 6, m7, A7, c7, hmore, HM.out, congrArg (Value.int .i64) (by have := HS.out; omega), rfl, rfl, HL.out, HC.out⟩
      case measure => have := HS.out; simp [intOf]; omega
    · have htm : t + mb = N := by omega
      have hI : (N : Int) - (t : Int) = (mb : Int) := by omega
      rw [htm] at hL
      rw [hI]
      clear hmb htm hI
      go_wp2_with fail
      go_loopw [3, 11] (fun kv ev wx => ∃ (j m oj cj : Nat), m + j = N ∧ 0 < m ∧ oj = o + j ∧ m ≤ cj ∧ cj ≤ d ∧ kv = .slice (some ⟨b, oj, none⟩) m cj ∧ ev = .int .i64 0 ∧ LAt wx B (fun _ => True) l ⟨13, 13, some ⟨s, r, N, ks.take j⟩⟩ ∧ ChT B [49, 51] w wx) (fun kv _ _ => slLen kv)
      case atStart => exact ⟨0, N, o, d, rfl, by omega, rfl, hd, Nat.le_refl _, rfl, rfl, hL, hc⟩
      case round =>
        rename World => wx
        clear hL hc hzr
        obtain ⟨j, m, oj, cj, hmj, hm0, hoj, hmc, hcd, rfl, rfl, hL, hc⟩ := hrel
        have hzx := hc.size
        have hby := (hkb.chT hc (by decide)).drop j
        rw [← List.map_drop, ← hoj] at hby
        have hl : ((N - j : Nat) : Int) = (m : Int) := by omega
        have hkj : by8 (ks.drop j) := fun x hx => hku x (List.mem_of_mem_drop hx)
        have HMJ := Lib.hid hmj
        have HOJ := Lib.hid hoj
        clear hoj hmj
        by_cases hm6 : 6 < m
        · have hm6I : (6 : Int) < m := by omega
          have hc6I : (6 : Int) ≤ cj := by omega
          have hc6 : ¬ cj = 6 := by omega
          have U := unlock_any hL (by omega) (m : Int) (some ⟨b, oj, none⟩) 6 cj ((ks.drop j).take 6) (by omega) (by omega) (by decide) (by rw [List.length_take, List.length_drop, HK.out]; have := HMJ.out; omega) (hby.rd.take' 6) (fun x hx => hkj x (List.mem_of_mem_take hx))
          rw [← hl, unlock_mid r s ks j N HS.out HK.out (by have := HMJ.out; omega), hl] at U
          have U := Lib.hid U
          clear hL hby hkj
          go_wp2_with fail
          refine U.out.mono ?_
          rintro e w8 ⟨rfl, hL8, hc8⟩
          have HL := Lib.hid hL8
          have HC := Lib.hid (hc.trans hc8)
          go_wp2_with fail
          go_roundw
          case rel => exact ⟨j + 6, m - 6, oj + 6, cj - 6, by have := HMJ.out; omega, by omega, by rw [HOJ.out]; omega, by omega, by omega, rfl, rfl, HL.out, HC.out⟩
          case measure => simp [slLen]; omega
        · have hm6I : (m : Int) ≤ 6 := by omega
          have U := unlock_any hL (by omega) (m : Int) (some ⟨b, oj, none⟩) m cj (ks.drop j) (by omega) (by omega) (by unfold maxLen; omega) (by rw [List.length_drop, HK.out]; have := HMJ.out; omega) hby.rd hkj
          rw [← hl, unlock_fin r s ks j N hr HS.out HK.out (by have := HMJ.out; omega) (by have := HMJ.out; omega), hl] at U
          clear hL hby hkj hl
          by_cases hkk : ks = keyL s r
          case' pos => rw [if_pos hkk] at U
          case' neg => rw [if_neg hkk] at U
          all_goals
            have U := Lib.hid U
            have HKK := Lib.hid hkk
            clear hkk
            go_wp2_with fail
            refine U.out.mono ?_
            rintro e w8 ⟨rfl, hL8, hc8⟩
            have HL := Lib.hid hL8
            have HC := Lib.hid (hc.trans hc8)
            clear hL8 U
            go_wp2_with fail
            go_ret
            first
              | exact ⟨rfl, HL.out, HC.out⟩
              | (rw [if_pos HKK.out, if_pos HKK.out]; exact ⟨rfl, HL.out, HC.out⟩)
              | (rw [if_neg HKK.out, if_neg HKK.out]; exact ⟨rfl, HL.out, HC.out⟩)
end Go.Proofs.Ytgkmeekefinmkaa
