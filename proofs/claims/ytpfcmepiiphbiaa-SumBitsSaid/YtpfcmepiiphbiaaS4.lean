/- Chapter 5, the reference: low, high, added, Word, Of (printed by gen_ref5.py). -/
import Derived.Test.YtpfcmepiiphbiaaS1
import Derived.Test.YtpfcmepiiphbiaaSh
import Derived.Test.YtpfcmepiiphbiaaRTake
namespace Go.Proofs.Ytpfcmepiiphbiaa
open Go.RowKit
set_option linter.unusedVariables false
set_option linter.unusedSimpArgs false
/-- A remainder over the first bytes. -/
def foldN (B : Nat → Nat → Nat) (r : Nat) (xs : List Int) : Nat → Nat
  | 0 => r
  | j + 1 => B (foldN B r xs j) (xs.getD j 0).toNat
theorem wordV_one (xs : List Int) (big : Bool) (t : Nat) : wordV xs 1 big t = (xs.getD t 0).toNat := by
  unfold wordV takeB
  rcases Nat.lt_or_ge t xs.length with h | h
  · rw [List.drop_eq_getElem_cons h, List.take_succ_cons, List.take_zero]
    cases big <;> simp [be, List.getD_eq_getElem?_getD, h]
  · rw [List.drop_eq_nil_of_le h]
    simp [be, List.getD_eq_getElem?_getD, h]
theorem accK7 (xs : List Int) (big : Bool) : ∀ j, accK 7 xs big j = foldN (lowB 40961) 0 xs j
  | 0 => rfl
  | j + 1 => by
    show stepK 7 (accK 7 xs big j) (wordV xs 1 big (1 * j)) = lowB 40961 _ _
    rw [wordV_one, accK7 xs big j, Nat.one_mul]; rfl
theorem accK8 (xs : List Int) (big : Bool) : ∀ j, accK 8 xs big j = foldN highB 65535 xs j
  | 0 => rfl
  | j + 1 => by
    show stepK 8 (accK 8 xs big j) (wordV xs 1 big (1 * j)) = highB _ _
    rw [wordV_one, accK8 xs big j, Nat.one_mul]; rfl
theorem accK9 (xs : List Int) (big : Bool) : ∀ j, accK 9 xs big j = foldN (lowB 3988292384) 4294967295 xs j
  | 0 => rfl
  | j + 1 => by
    show stepK 9 (accK 9 xs big j) (wordV xs 1 big (1 * j)) = lowB 3988292384 _ _
    rw [wordV_one, accK9 xs big j, Nat.one_mul]; rfl
theorem getD_b8 {xs : List Int} (h : b8 xs) (j : Nat) : 0 ≤ xs.getD j 0 ∧ xs.getD j 0 < 256 := by
  rw [List.getD_eq_getElem?_getD]
  rcases Nat.lt_or_ge j xs.length with hj | hj
  · rw [List.getElem?_eq_getElem hj]
    exact h _ (List.getElem_mem hj)
  · rw [List.getElem?_eq_none hj]; decide
theorem foldLow_lt (p r : Nat) (hp : p < 4294967296) (hr : r < 4294967296) (xs : List Int) (h : b8 xs) : ∀ j, foldN (lowB p) r xs j < 4294967296
  | 0 => hr
  | j + 1 => lowN_lt hp (xor32 (foldLow_lt p r hp hr xs h j) (by have := getD_b8 h j; omega)) 8
theorem foldHigh_lt (r : Nat) (hr : r < 65536) (xs : List Int) (h : b8 xs) : ∀ j, foldN highB r xs j < 65536
  | 0 => hr
  | j + 1 => highN_lt (xor16 (foldHigh_lt r hr xs h j) (by have := getD_b8 h j; omega)) 8
set_option maxHeartbeats 4000000 in
theorem rlow_any (p r0 : Nat) (hp : p < 4294967296) (hr0 : r0 < 4294967296) (A : Option Addr) (n c : Nat) (xs : List Int) (w : World) (hx : xs.length = n) (hr : Rd w w.heap.size A (u8s xs)) (hn : n ≤ c) (hl : n ≤ 100000) (hc : c ≤ maxLen) (hu : b8 xs) :
    Calls Try.prog 38 #[.int .u32 r0, .int .u32 p, .slice A n c] w fun e w' => e = .returned (.int .u32 (foldN (lowB p) r0 xs n : Nat)) ∧ w = w' := by
  have HX := Lib.hid hx
  have HU := Lib.hid hu
  have HF := Lib.hid (fun j => foldLow_lt p r0 hp hr0 xs hu j)
  have HAN : Hid (∀ t, t < n → ∃ bb oo x, A = some ⟨bb, oo, none⟩ ∧ w.cell? ⟨bb, oo + t, none⟩ = some (.int .u8 x) ∧ xs.getD t 0 = x) := fun t ht => by
    obtain ⟨b, o, e, _, hcc⟩ := hr (by intro h; have h' : xs = [] := by simpa using h
                                       rw [h'] at hx; simp at hx; omega)
    have hlt : t < xs.length := by omega
    refine ⟨b, o, xs[t], e, hcc t _ (by rw [List.getElem?_map, List.getElem?_eq_getElem hlt]; rfl), ?_⟩
    rw [List.getD_eq_getElem?_getD, List.getElem?_eq_getElem hlt]; rfl
  clear hx hr hu
  go_enter Try.func38, Try.ntmps38
  go_wp2_with fail
  go_loopw [0, 7] (fun rv tv wx => ∃ t : Nat, t ≤ n ∧ rv = .int .u32 (foldN (lowB p) r0 xs t : Nat) ∧ tv = .int .i64 (t : Nat) ∧ wx = w) (fun _ tv _ => n - (intOf tv).toNat)
  case atStart => exact ⟨0, Nat.zero_le _, rfl, rfl, rfl⟩
  case round =>
    obtain ⟨t, htn, rfl, rfl, rfl⟩ := hrel
    by_cases hlt : t < n
    · obtain ⟨bb, oo, x, rfl, cx, hxx⟩ := HAN.out t hlt
      have hltI : (t : Int) < n := by omega
      have hxb := getD_b8 HU.out t
      rw [hxx] at hxb
      obtain ⟨v, rfl⟩ := Int.eq_ofNat_of_zero_le hxb.1
      have hv : v < 256 := by omega
      have hrl := HF.out t
      have hnx : foldN (lowB p) r0 xs (t + 1) = lowB p (foldN (lowB p) r0 xs t) v := by
        show lowB p _ (xs.getD t 0).toNat = _
        rw [hxx]; rfl
      obtain ⟨r, hrr⟩ : ∃ r, foldN (lowB p) r0 xs t = r := ⟨_, rfl⟩
      rw [hrr] at hrl hnx ⊢
      have hcv := conv32 v (by omega)
      have hxo := u32_xor_nat r v hrl (by omega)
      have hsl := xor32 hrl (show v < 4294967296 by omega)
      obtain ⟨s, hs⟩ : ∃ s, r ^^^ v = s := ⟨_, rfl⟩
      rw [hs] at hxo hsl
      have HN : Hid (foldN (lowB p) r0 xs (t + 1) = lowN p 8 s) := by
        show _ = _
        rw [hnx, ← hs]; rfl
      have HL : Hid (∀ k, lowN p k s < 4294967296) := fun k => lowN_lt hp hsl k
      clear hrr hnx hrl hs hxx hxb hv hlt hsl
      go_wp2_with fail
      go_loopw [0, 8, 9] (fun rv kv _ wy => ∃ k : Nat, k ≤ 8 ∧ rv = .int .u32 (lowN p k s : Nat) ∧ kv = .int .i64 (k : Nat) ∧ wy = wr) (fun _ kv _ _ => 8 - (intOf kv).toNat)
      case atStart => exact ⟨0, by decide, rfl, rfl, rfl⟩
      case round =>
        obtain ⟨k, hk, rfl, rfl, rfl⟩ := hrel
        by_cases h8 : k = 8
        · subst h8
          go_wp2_with fail
          go_roundw
          case rel => exact ⟨t + 1, by omega, by rw [HN.out], by go_num, trivial⟩
          case measure => simp [intOf]; omega
        · have hk8 : k < 8 := by omega
          have hkI : (k : Int) < 8 := by omega
          have hq := HL.out k
          have hqn : lowN p (k + 1) s = lowS p (lowN p k s) := rfl
          obtain ⟨q, hqq⟩ : ∃ q, lowN p k s = q := ⟨_, rfl⟩
          rw [hqq] at hq hqn ⊢
          clear hcv hxo hqq
          have hxx := u32_xor_nat (q / 2) p (by omega) hp
          rw [Int.natCast_ediv] at hxx
          have hdm : (q : Int) / 2 % 4294967296 = (q : Int) / 2 := by omega
          by_cases hb : q % 2 = 1
          · have hl : lowS p q = (q / 2) ^^^ p := by unfold lowS; rw [if_pos hb]
            have hbI : (q : Int) % 2 = 1 := by omega
            obtain ⟨Z, hZ⟩ : ∃ Z, q / 2 ^^^ p = Z := ⟨_, rfl⟩
            rw [hZ] at hxx hl
            have HQ := Lib.hid (hqn.trans hl)
            clear hb hqn hl hq hZ
            go_wp2_with fail
            go_roundw
            case rel => exact ⟨k + 1, by omega, by rw [HQ.out]; exact congrArg (Value.int .u32) hxx, by go_num, trivial⟩
            case measure => simp [intOf]; omega
          · have hl : lowS p q = q / 2 := by unfold lowS; rw [if_neg hb]
            have hbI : (q : Int) % 2 = 0 := by omega
            have HQ := Lib.hid (hqn.trans hl)
            clear hb hqn hl hq hxx
            go_wp2_with fail
            go_roundw
            case rel => exact ⟨k + 1, by omega, by rw [HQ.out]; exact congrArg (Value.int .u32) (Int.natCast_ediv q 2).symm, by go_num, trivial⟩
            case measure => simp [intOf]; omega
    · obtain rfl : t = n := by omega
      go_wp2_with fail
      go_ret
      exact ⟨rfl, rfl⟩
set_option maxHeartbeats 4000000 in
theorem rhigh_any (A : Option Addr) (n c : Nat) (xs : List Int) (w : World) (hx : xs.length = n) (hr : Rd w w.heap.size A (u8s xs)) (hn : n ≤ c) (hl : n ≤ 100000) (hc : c ≤ maxLen) (hu : b8 xs) :
    Calls Try.prog 39 #[.slice A n c] w fun e w' => e = .returned (.int .u32 (foldN highB 65535 xs n : Nat)) ∧ w = w' := by
  have HX := Lib.hid hx
  have HU := Lib.hid hu
  have HF := Lib.hid (fun j => foldHigh_lt 65535 (by decide) xs hu j)
  have HAN : Hid (∀ t, t < n → ∃ bb oo x, A = some ⟨bb, oo, none⟩ ∧ w.cell? ⟨bb, oo + t, none⟩ = some (.int .u8 x) ∧ xs.getD t 0 = x) := fun t ht => by
    obtain ⟨b, o, e, _, hcc⟩ := hr (by intro h; have h' : xs = [] := by simpa using h
                                       rw [h'] at hx; simp at hx; omega)
    have hlt : t < xs.length := by omega
    refine ⟨b, o, xs[t], e, hcc t _ (by rw [List.getElem?_map, List.getElem?_eq_getElem hlt]; rfl), ?_⟩
    rw [List.getD_eq_getElem?_getD, List.getElem?_eq_getElem hlt]; rfl
  clear hx hr hu
  go_enter Try.func39, Try.ntmps39
  go_wp2_with fail
  go_loopw [3, 4] (fun rv tv wx => ∃ t : Nat, t ≤ n ∧ rv = .int .u32 (foldN highB 65535 xs t : Nat) ∧ tv = .int .i64 (t : Nat) ∧ wx = w) (fun _ tv _ => n - (intOf tv).toNat)
  case atStart => exact ⟨0, Nat.zero_le _, rfl, rfl, rfl⟩
  case round =>
    obtain ⟨t, htn, rfl, rfl, rfl⟩ := hrel
    by_cases hlt : t < n
    · obtain ⟨bb, oo, x, rfl, cx, hxx⟩ := HAN.out t hlt
      have hltI : (t : Int) < n := by omega
      have hxb := getD_b8 HU.out t
      rw [hxx] at hxb
      obtain ⟨v, rfl⟩ := Int.eq_ofNat_of_zero_le hxb.1
      have hv : v < 256 := by omega
      have hrl := HF.out t
      have hnx : foldN highB 65535 xs (t + 1) = highB (foldN highB 65535 xs t) v := by
        show highB _ (xs.getD t 0).toNat = _
        rw [hxx]; rfl
      obtain ⟨r, hrr⟩ : ∃ r, foldN highB 65535 xs t = r := ⟨_, rfl⟩
      rw [hrr] at hrl hnx ⊢
      have hcv := conv32 v (by omega)
      have hV : IntKind.u32.wrap ((v : Int) * 256) = ((v * 256 : Nat) : Int) := by rw [IntKind.wrap_u32]; omega
      have hxo := u32_xor_nat r (v * 256) (by omega) (by omega)
      have hsl : r ^^^ (v * 256) < 65536 := xor16 hrl (by omega)
      obtain ⟨V, hVV⟩ : ∃ V, v * 256 = V := ⟨_, rfl⟩
      have hnx : foldN highB 65535 xs (t + 1) = highN 8 (r ^^^ V) := by rw [hnx, ← hVV, highB]
      rw [hVV] at hV hxo hsl
      obtain ⟨s, hs⟩ : ∃ s, r ^^^ V = s := ⟨_, rfl⟩
      rw [hs] at hxo hsl
      have HN : Hid (foldN highB 65535 xs (t + 1) = highN 8 s) := by
        show _ = _
        rw [hnx, ← hs]
      have HL : Hid (∀ k, highN k s < 65536) := fun k => highN_lt hsl k
      clear hrr hnx hrl hs hxx hxb hv hlt hsl
      go_wp2_with fail
      go_loopw [3, 5, 6] (fun rv kv _ wy => ∃ k : Nat, k ≤ 8 ∧ rv = .int .u32 (highN k s : Nat) ∧ kv = .int .i64 (k : Nat) ∧ wy = wr) (fun _ kv _ _ => 8 - (intOf kv).toNat)
      case atStart => exact ⟨0, by decide, rfl, rfl, rfl⟩
      case round =>
        obtain ⟨k, hk, rfl, rfl, rfl⟩ := hrel
        by_cases h8 : k = 8
        · subst h8
          go_wp2_with fail
          go_roundw
          case rel => exact ⟨t + 1, by omega, by rw [HN.out], by go_num, trivial⟩
          case measure => simp [intOf]; omega
        · have hk8 : k < 8 := by omega
          have hkI : (k : Int) < 8 := by omega
          have hq := HL.out k
          have hqn : highN (k + 1) s = highS (highN k s) := rfl
          obtain ⟨q, hqq⟩ : ∃ q, highN k s = q := ⟨_, rfl⟩
          rw [hqq] at hq hqn ⊢
          clear hcv hxo hqq hV
          have hw2 : IntKind.u32.wrap ((q : Int) * 2) = (q : Int) * 2 := by rw [IntKind.wrap_u32]; omega
          obtain ⟨M, hM⟩ : ∃ M, q * 2 % 65536 = M := ⟨_, rfl⟩
          have hMI : (q : Int) * 2 % 65536 = (M : Int) := by omega
          have hxx := u32_xor_nat M 4129 (by omega) (by decide)
          by_cases hb : 32768 ≤ q
          · have hl : highS q = M ^^^ 4129 := by unfold highS; rw [if_pos (by omega), hM]
            have hbI : (32768 : Int) ≤ q := by omega
            obtain ⟨Z, hZ⟩ : ∃ Z, M ^^^ 4129 = Z := ⟨_, rfl⟩
            rw [hZ] at hxx hl
            have HQ := Lib.hid (hqn.trans hl)
            clear hb hqn hl hq hZ hM
            go_wp2_with fail
            go_roundw
            case rel => exact ⟨k + 1, by omega, by rw [HQ.out]; exact congrArg (Value.int .u32) hxx, by go_num, trivial⟩
            case measure => simp [intOf]; omega
          · have hl : highS q = M := by unfold highS; rw [if_neg (by omega), hM]
            have hbI : ¬ (32768 : Int) ≤ q := by omega
            have HQ := Lib.hid (hqn.trans hl)
            clear hb hqn hl hq hM hxx
            go_wp2_with fail
            go_roundw
            case rel => exact ⟨k + 1, by omega, by rw [HQ.out]; exact congrArg (Value.int .u32) hMI, by go_num, trivial⟩
            case measure => simp [intOf]; omega
    · obtain rfl : t = n := by omega
      go_wp2_with fail
      go_ret
      exact ⟨rfl, rfl⟩
end Go.Proofs.Ytpfcmepiiphbiaa
