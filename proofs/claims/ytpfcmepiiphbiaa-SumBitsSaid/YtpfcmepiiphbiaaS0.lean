/- Sum: the steps, and what they make. -/
import Derived.Test.YtpfcmepiiphbiaaTake
import Derived.Test.YtpfcmepiiphbiaaTyp
import Derived.Laws.BitsAllLaws
namespace Go.Proofs.Ytpfcmepiiphbiaa
open Go.RowKit
set_option linter.unusedVariables false
set_option linter.unusedSimpArgs false
/-- One bit of a remainder, the lowest first. -/
def lowS (p r : Nat) : Nat := if r % 2 = 1 then (r / 2) ^^^ p else r / 2
def lowN (p : Nat) : Nat → Nat → Nat
  | 0, r => r
  | k + 1, r => lowS p (lowN p k r)
def lowB (p r v : Nat) : Nat := lowN p 8 (r ^^^ v)
/-- The highest first: of 16 bits. -/
def highS (r : Nat) : Nat := if r / 32768 % 2 = 1 then (r * 2 % 65536) ^^^ 4129 else r * 2 % 65536
def highN : Nat → Nat → Nat
  | 0, r => r
  | k + 1, r => highS (highN k r)
def highB (r v : Nat) : Nat := highN 8 (r ^^^ (v * 256))
abbrev T32 : Nat := 4294967296
theorem xor32 {a b : Nat} (ha : a < 4294967296) (hb : b < 4294967296) : a ^^^ b < 4294967296 := Nat.xor_lt_two_pow (n := 32) ha hb
theorem xor16 {a b : Nat} (ha : a < 65536) (hb : b < 65536) : a ^^^ b < 65536 := Nat.xor_lt_two_pow (n := 16) ha hb
theorem lowS_lt {p r : Nat} (hp : p < 4294967296) (hr : r < 4294967296) : lowS p r < 4294967296 := by
  unfold lowS
  split
  · exact xor32 (by omega) hp
  · omega
theorem lowN_lt {p r : Nat} (hp : p < 4294967296) (hr : r < 4294967296) : ∀ k, lowN p k r < 4294967296
  | 0 => hr
  | k + 1 => lowS_lt hp (lowN_lt hp hr k)
theorem highS_lt (r : Nat) : highS r < 65536 := by
  unfold highS
  split
  · exact xor16 (Nat.mod_lt _ (by decide)) (by decide)
  · exact Nat.mod_lt _ (by decide)
theorem highN_lt {r : Nat} (hr : r < 65536) : ∀ k, highN k r < 65536
  | 0 => hr
  | k + 1 => highS_lt _
theorem xor_mod16 (a b : Nat) : (a ^^^ b) % 65536 = (a % 65536) ^^^ (b % 65536) := Nat.xor_mod_two_pow (n := 16)
theorem and_one (a : Nat) : a &&& 1 = a % 2 := Nat.and_one_is_mod a
theorem u32_and1 (r : Nat) (hr : r < 4294967296) : bits .and .u32 (r : Int) 1 = ((r % 2 : Nat) : Int) := by
  have := u32_and_nat r 1 hr (by decide)
  rw [and_one] at this
  exact this
theorem u32_and16 (r : Nat) (hr : r < 4294967296) : bits .and .u32 (r : Int) 65535 = ((r % 65536 : Nat) : Int) := by
  have := u32_and_nat r 65535 hr (by decide)
  rw [show r &&& 65535 = r % 2 ^ 16 from Nat.and_two_pow_sub_one_eq_mod r 16] at this
  exact this
theorem u32_and8 (r : Nat) (hr : r < 4294967296) : bits .and .u32 (r : Int) 255 = ((r % 256 : Nat) : Int) := by
  have := u32_and_nat r 255 hr (by decide)
  rw [show r &&& 255 = r % 2 ^ 8 from Nat.and_two_pow_sub_one_eq_mod r 8] at this
  exact this
theorem u32_and32 (r : Nat) (hr : r < 4294967296) : bits .and .u32 (r : Int) 4294967295 = (r : Int) := by
  have := u32_and_nat r 4294967295 hr (by decide)
  rw [show r &&& 4294967295 = r % 2 ^ 32 from Nat.and_two_pow_sub_one_eq_mod r 32, Nat.mod_eq_of_lt hr] at this
  exact this
/-- add. -/
theorem add_step (r v : Int) (w : World) : Calls Try.prog 42 #[.int .u32 r, .int .u32 v] w fun e w' => e = .returned (.int .u32 (IntKind.u32.wrap (r + v))) ∧ w' = w := by
  go_enter Try.func42, Try.ntmps42
  go_wp2_with fail
  go_ret
  exact ⟨rfl, rfl⟩
/-- low's own function. -/
theorem low_step (p r v : Nat) (g : Nat) (w : World) (hp : p < 4294967296) (hr : r < 4294967296) (hv : v < 4294967296) (hg : Blk w g 43 #[.int .u32 p]) :
    Calls Try.prog 45 #[.int .u32 r, .int .u32 v, .pointer (some ⟨g, 0, none⟩)] w fun e w' => e = .returned (.int .u32 (lowB p r v)) ∧ w' = w := by
  have hx := u32_xor_nat r v hr hv
  have hrv := xor32 hr hv
  have hc := hg.cell 0
  have L := fun k => lowN_lt hp hrv k
  unfold lowB
  obtain ⟨s, hs⟩ : ∃ s, r ^^^ v = s := ⟨_, rfl⟩
  rw [hs] at hx hrv L ⊢
  clear hs hg
  go_enter Try.func45, Try.ntmps45
  go_wp2_with fail
  go_loopw [0, 9] (fun r' k' wx => ∃ k : Nat, k ≤ 8 ∧ r' = .int .u32 (lowN p k s) ∧ k' = .int .i64 k ∧ wx = w) (fun r' k' _ => 8 - (intOf k').toNat)
  case atStart => exact ⟨0, by decide, rfl, rfl, rfl⟩
  case round =>
    obtain ⟨k, hk, rfl, rfl, rfl⟩ := hrel
    by_cases h8 : k = 8
    · subst h8
      go_wp2_with fail
      go_ret
      exact ⟨rfl, rfl⟩
    · have hk8 : k < 8 := by omega
      have hkI : (k : Int) < 8 := by omega
      have Lk := L k
      obtain ⟨q, hq⟩ : ∃ q, lowN p k s = q := ⟨_, rfl⟩
      have hq1 : lowN p (k + 1) s = lowS p q := by rw [← hq]; rfl
      rw [hq] at Lk ⊢
      have ha := u32_and1 q Lk
      have hxx := u32_xor_nat (q / 2) p (by omega) hp
      rw [Int.natCast_ediv] at hxx
      clear hq L hx
      by_cases hb : q % 2 = 1
      · have hl : lowS p q = (q / 2) ^^^ p := by unfold lowS; rw [if_pos hb]
        have ha1 : bits .and .u32 (q : Int) 1 = 1 := by rw [ha, hb]; rfl
        clear ha
        have HQ := Lib.hid hq1
        have HL := Lib.hid hl
        clear hb hq1 hl Lk hp hr hv hrv
        obtain ⟨Z, hZ⟩ : ∃ Z, q / 2 ^^^ p = Z := ⟨_, rfl⟩
        rw [hZ] at hxx HL
        clear hZ
        go_wp2_with fail
        go_roundw
        case rel => exact ⟨k + 1, by omega, by rw [HQ.out, HL.out]; exact congrArg (Value.int .u32) hxx, by go_num, trivial⟩
        case measure => simp [intOf]; omega
      · have hb0 : q % 2 = 0 := by omega
        have hl : lowS p q = q / 2 := by unfold lowS; rw [if_neg hb]
        have ha1 : bits .and .u32 (q : Int) 1 = 0 := by rw [ha, hb0]; rfl
        clear ha
        have HQ := Lib.hid hq1
        have HL := Lib.hid hl
        clear hb hb0 hq1 hl Lk hp hr hv hrv
        go_wp2_with fail
        go_roundw
        case rel => exact ⟨k + 1, by omega, by rw [HQ.out, HL.out]; exact congrArg (Value.int .u32) (Int.natCast_ediv q 2).symm, by go_num, trivial⟩
        case measure => simp [intOf]; omega
/-- high. -/
theorem high_step (r v : Nat) (w : World) (hr : r < 65536) (hv : v < 256) :
    Calls Try.prog 44 #[.int .u32 r, .int .u32 v] w fun e w' => e = .returned (.int .u32 (highB r v)) ∧ w' = w := by
  have hV : IntKind.u32.wrap ((v : Int) * 256) = ((v * 256 : Nat) : Int) := by rw [IntKind.wrap_u32]; omega
  have hx := u32_xor_nat r (v * 256) (by omega) (by omega)
  have hrv : r ^^^ (v * 256) < 65536 := xor16 hr (by omega)
  unfold highB
  obtain ⟨V, hVV⟩ : ∃ V, v * 256 = V := ⟨_, rfl⟩
  rw [hVV] at hV hx hrv ⊢
  clear hVV
  obtain ⟨s, hs⟩ : ∃ s, r ^^^ V = s := ⟨_, rfl⟩
  rw [hs] at hx hrv ⊢
  clear hs hr hv
  have HR := Lib.hid hrv
  clear hrv
  go_enter Try.func44, Try.ntmps44
  go_wp2_with fail
  clear hx hV
  go_loopw [0, 9] (fun r' k' wx => ∃ (k R : Nat), k ≤ 8 ∧ r' = .int .u32 R ∧ R < 4294967296 ∧ R % 65536 = highN k s ∧ k' = .int .i64 k ∧ wx = w) (fun r' k' _ => 8 - (intOf k').toNat)
  case atStart => exact ⟨0, s, by decide, rfl, by have := HR.out; omega, Nat.mod_eq_of_lt HR.out, rfl, rfl⟩
  case round =>
    obtain ⟨k, R, hk, rfl, hR, hRk, rfl, rfl⟩ := hrel
    by_cases h8 : k = 8
    · subst h8
      have ha := u32_and16 R hR
      rw [hRk] at ha
      clear hRk hR
      obtain ⟨Z, hZ⟩ : ∃ Z, highN 8 s = Z := ⟨_, rfl⟩
      rw [hZ] at ha
      go_wp2_with fail
      go_ret
      exact ⟨by rw [hZ]; rfl, rfl⟩
    · have hk8 : k < 8 := by omega
      have hkI : (k : Int) < 8 := by omega
      obtain ⟨R2, hR2⟩ : ∃ R2, R * 2 % 4294967296 = R2 := ⟨_, rfl⟩
      have hw : IntKind.u32.wrap ((R : Int) * 2) = (R2 : Int) := by rw [IntKind.wrap_u32]; omega
      have hR2l : R2 < 4294967296 := by omega
      have ha := u32_and1 (R2 / 65536) (by omega)
      have hxx := u32_xor_nat R2 4129 hR2l (by decide)
      have hq : highN (k + 1) s = highS (R % 65536) := by rw [hRk]; rfl
      have hbit : R2 / 65536 % 2 = R % 65536 / 32768 % 2 := by omega
      have hmod : R2 % 65536 = R % 65536 * 2 % 65536 := by omega
      rw [Int.natCast_ediv] at ha
      have hxl : R2 ^^^ 4129 < 4294967296 := xor32 hR2l (by decide)
      have hxm : (R2 ^^^ 4129) % 65536 = (R % 65536 * 2 % 65536) ^^^ 4129 := by rw [xor_mod16, hmod]
      obtain ⟨X, hX⟩ : ∃ X, R2 ^^^ 4129 = X := ⟨_, rfl⟩
      rw [hX] at hxx hxl hxm
      by_cases hb : R % 65536 / 32768 % 2 = 1
      · have hl : highS (R % 65536) = (R % 65536 * 2 % 65536) ^^^ 4129 := by unfold highS; rw [if_pos hb]
        have ha1 : bits .and .u32 ((R2 : Int) / 65536) 1 = 1 := by rw [← show ((65536 : Nat) : Int) = 65536 from rfl, ha, hbit, hb]; rfl
        have HE := Lib.hid (hxm.trans (hl.symm.trans hq.symm))
        have HX := Lib.hid hxl
        clear ha hX hxm hxl hmod hbit hq hl hb hR2 hR2l hR hRk
        go_wp2_with fail
        go_roundw
        case rel => exact ⟨k + 1, X, by omega, by exact congrArg (Value.int .u32) hxx, HX.out, HE.out, by go_num, trivial⟩
        case measure => simp [intOf]; omega
      · have hl : highS (R % 65536) = R % 65536 * 2 % 65536 := by unfold highS; rw [if_neg hb]
        have ha1 : bits .and .u32 ((R2 : Int) / 65536) 1 = 0 := by rw [← show ((65536 : Nat) : Int) = 65536 from rfl, ha, hbit, show R % 65536 / 32768 % 2 = 0 by omega]; rfl
        have HE := Lib.hid (hmod.trans (hl.symm.trans hq.symm))
        have HX := Lib.hid hR2l
        clear ha hX hxm hxl hmod hbit hq hl hb hR2 hR2l hR hRk hxx
        go_wp2_with fail
        go_roundw
        case rel => exact ⟨k + 1, R2, by omega, rfl, HX.out, HE.out, by go_num, trivial⟩
        case measure => simp [intOf]; omega
/-- low's closure. -/
theorem low_any (p : Int) (w : World) : Calls Try.prog 43 #[.int .u32 p] w fun e w' => ∃ g, e = .returned (.func (.func 45) #[] #[.pointer (some ⟨g, 0, none⟩)]) ∧ w.heap.size ≤ g ∧ Blk w' g 43 #[.int .u32 p] ∧ Below w.heap.size w w' := by
  have hmf : ∀ (fn : Fn) (first cap : Array Value) (w : World), (Instr.makeFunc fn first cap).run Try.prog w = .ok (.func fn first cap) w := fun _ _ _ _ => rfl
  go_enter Try.func43, Try.ntmps43
  go_wp2_with fail
  go_ret
  exact ⟨_, rfl, by simp, Blk.new _ _ _, bl1 _ _⟩
end Go.Proofs.Ytpfcmepiiphbiaa
