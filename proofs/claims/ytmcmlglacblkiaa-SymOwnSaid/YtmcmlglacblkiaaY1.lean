/- May, of the program and of the reference. -/
import Derived.Test.YtmcmlglacblkiaaY0
import Derived.Test.YtmcmlglacblkiaaNum0
namespace Go.Proofs.Ytmcmlglacblkiaa
open Go.RowKit
set_option linter.unusedVariables false
set_option linter.unusedSimpArgs false
/-- A name of memory. -/
structure Sy where
  nm : ByteArray
  ar : Int
  at_ : Int
  wd : Int
  bg : Bool
  sg : Bool
  mu : Int
  ad : Int
abbrev Sy.cs (s : Sy) : Array Value := #[.string s.nm, .int .u8 s.ar, .int .u32 s.at_, .int .i64 s.wd, .bool s.bg, .bool s.sg, .int .i32 s.mu, .int .i32 s.ad]
abbrev Sy.val (s : Sy) : Value := .agg s.cs
structure Sy.wf (s : Sy) : Prop where
  nm : s.nm.size ≤ 9223372036854775807
  mu0 : -2147483648 ≤ s.mu
  mu1 : s.mu ≤ 2147483647
  ad0 : -2147483648 ≤ s.ad
  ad1 : s.ad ≤ 2147483647
  wd0 : -9223372036854775808 ≤ s.wd
  wd1 : s.wd ≤ 9223372036854775807
/-- May it be? -/
def Sy.may (s : Sy) : Bool := !ctl s.nm && decide (1 ≤ s.nm.size ∧ s.nm.size ≤ 32) && decide (s.mu ≠ 0 ∧ -16777216 ≤ s.mu ∧ s.mu ≤ 16777216) && decide (s.wd = 1 ∨ s.wd = 2 ∨ s.wd = 4)
def Name (n : ByteArray) : Prop := ctl n = false ∧ 1 ≤ n.size ∧ n.size ≤ 32
theorem may_iff (s : Sy) : s.may = true ↔ Name s.nm ∧ (s.mu ≠ 0 ∧ -16777216 ≤ s.mu ∧ s.mu ≤ 16777216) ∧ (s.wd = 1 ∨ s.wd = 2 ∨ s.wd = 4) := by
  unfold Sy.may Name
  simp [and_assoc]
theorem may_no (s : Sy) (h : ¬ (Name s.nm ∧ (s.mu ≠ 0 ∧ -16777216 ≤ s.mu ∧ s.mu ≤ 16777216) ∧ (s.wd = 1 ∨ s.wd = 2 ∨ s.wd = 4))) : s.may = false := by
  cases hh : s.may
  · rfl
  · exact absurd ((may_iff s).1 hh) h
theorem byteAt_get (s : ByteArray) (k : Nat) (h : k < s.size) : byteAt s k = s[k].toNat := by
  unfold byteAt
  congr 1
  show s.data[k]! = s.data[k]
  exact getElem!_pos s.data k h
theorem wrap32_neg (m : Int) : IntKind.i32.wrap (-m) = (-m + 2147483648) % 4294967296 - 2147483648 := IntKind.wrap_i32 _
set_option maxHeartbeats 4000000 in
theorem may_any (s : Sy) (w : World) (h : s.wf) : Calls Try.prog 15 #[s.val] w fun e w' => e = .returned (.bool s.may) ∧ Below w.heap.size w w' := by
  have M1 := Lib.hid (may_iff s)
  have M0 := Lib.hid (may_no s)
  obtain ⟨M, hM⟩ : ∃ M, s.may = M := ⟨_, rfl⟩
  rw [hM] at M0 M1 ⊢
  clear hM
  obtain ⟨nm, ar, at_, wd, bg, sg, mu, ad⟩ := s
  obtain ⟨h1, h2, h3, h4, h5, h6, h7⟩ := h
  dsimp only at h1 h2 h3 h4 h5 h6 h7
  have FT := Lib.hid fun (W : World) => fits_any 0 wd false W (by decide) (by decide)
  have CN := Lib.hid fun (W : World) => contains_any nm W
  have BX := Blk.new w 24 #[.string nm, .int .u8 ar, .int .u32 at_, .int .i64 wd, .bool bg, .bool sg, .int .i32 mu, .int .i32 ad]
  obtain ⟨n, hn⟩ : ∃ n, nm.size = n := ⟨_, rfl⟩
  have h63 : (n : Int) ≤ 9223372036854775807 := by omega
  cases hc : ctl nm
  case true =>
    obtain rfl : M = false := M0.out (fun hh => by have := hh.1.1; rw [hc] at this; cases this)
    rw [hc] at CN
    clear h1
    go_enter Try.func15, Try.ntmps15
    go_wp2_with fail
    refine (CN.out _).mono ?_
    rintro e w1 ⟨rfl, hb1⟩
    go_wp2_with fail
    go_ret
    exact ⟨rfl, bel1 hb1⟩
  case false =>
    rw [hc] at CN
    by_cases hsz : 1 ≤ n ∧ n ≤ 32
    case neg =>
      obtain rfl : M = false := M0.out (fun hh => hsz (by have := hh.1.2; dsimp only at this; omega))
      rw [← hn] at h63
      by_cases hn1 : nm.size < 1
      · have hI : (nm.size : Int) < 1 := by omega
        clear h1 hn h63
        go_enter Try.func15, Try.ntmps15
        go_wp2_with fail
        refine (CN.out _).mono ?_
        rintro e w1 ⟨rfl, hb1⟩
        have cT := (BX.below hb1).cell
        go_wp2_with fail
        go_ret
        exact ⟨rfl, bel1 hb1⟩
      · have hI : (32 : Int) < nm.size := by omega
        clear h1 hn h63
        go_enter Try.func15, Try.ntmps15
        go_wp2_with fail
        refine (CN.out _).mono ?_
        rintro e w1 ⟨rfl, hb1⟩
        have cT := (BX.below hb1).cell
        go_wp2_with fail
        go_ret
        exact ⟨rfl, bel1 hb1⟩
    case pos =>
      have hI1 : (1 : Int) ≤ nm.size := by omega
      have hI2 : (nm.size : Int) ≤ 32 := by omega
      have HN : Hid (Name nm) := ⟨hc, by omega, by omega⟩
      obtain ⟨ng, hng⟩ : ∃ ng, IntKind.i32.wrap (-mu) = ng := ⟨_, rfl⟩
      have hng' : ng = (-mu + 2147483648) % 4294967296 - 2147483648 := by rw [← hng, IntKind.wrap_i32]
      have HNG := Lib.hid hng'
      clear hng' hn h63 h1 hsz hc
      by_cases hmu : mu ≠ 0 ∧ -16777216 ≤ mu ∧ mu ≤ 16777216
      case neg =>
        obtain rfl : M = false := M0.out (fun hh => hmu hh.2.1)
        by_cases hz : mu = 0
        · subst hz
          clear hmu hng HNG
          go_enter Try.func15, Try.ntmps15
          go_wp2_with fail
          refine (CN.out _).mono ?_
          rintro e w1 ⟨rfl, hb1⟩
          have cT := (BX.below hb1).cell
          go_wp2_with fail
          go_ret
          exact ⟨rfl, bel1 hb1⟩
        · have hzb : (mu != 0) = true := by simpa using hz
          have hmx : (max mu ng ≤ 16777216 ∧ ¬ -16777216 ≤ mu) ∨ 16777216 < max mu ng := by
            have := HNG.out
            omega
          obtain ⟨mx, hmxx⟩ : ∃ mx, max mu ng = mx := ⟨_, rfl⟩
          rw [hmxx] at hmx
          clear hmu
          rcases hmx with ⟨hx1, hx2⟩ | hx1
          all_goals
            go_enter Try.func15, Try.ntmps15
            go_wp2_with fail
            refine (CN.out _).mono ?_
            rintro e w1 ⟨rfl, hb1⟩
            have cT := (BX.below hb1).cell
            go_wp2_with fail
            all_goals
              go_ret
              exact ⟨rfl, bel1 hb1⟩
      case pos =>
        have hzb : (mu != 0) = true := by simpa using hmu.1
        have hmI := hmu.2.1
        obtain ⟨mx, hmxx⟩ : ∃ mx, max mu ng = mx := ⟨_, rfl⟩
        have hmx : mx ≤ 16777216 := by
          have := HNG.out
          omega
        have HMU := Lib.hid hmu
        clear hmu
        by_cases hw4 : wd ≤ 4
        · by_cases hW : isW wd = true
          · obtain rfl : M = true := M1.out.2 ⟨HN.out, HMU.out, by
              have : wd = 1 ∨ wd = 2 ∨ wd = 4 := by rcases isW_cases hW with h | h | h | h <;> omega
              exact this⟩
            have hf : fits 0 wd false = true := by
              unfold fits
              rw [hW]
              rcases isW_cases hW with rfl | rfl | rfl | rfl <;> decide
            rw [hf] at FT
            clear hf hW
            go_enter Try.func15, Try.ntmps15
            go_wp2_with fail
            refine (CN.out _).mono ?_
            rintro e w1 ⟨rfl, hb1⟩
            have cT := (BX.below hb1).cell
            go_wp2_with fail
            all_goals
              refine (FT.out _).mono ?_
              rintro e w' ⟨rfl, rfl⟩
              go_wp2_with fail
              go_ret
              exact ⟨rfl, bel1 hb1⟩
          · obtain rfl : M = false := M0.out (fun hh => hW (by rcases hh.2.2 with h | h | h <;> (have h : wd = _ := h; subst h; decide)))
            have hf : fits 0 wd false = false := by
              unfold fits
              simp [hW]
            rw [hf] at FT
            clear hf hW
            go_enter Try.func15, Try.ntmps15
            go_wp2_with fail
            refine (CN.out _).mono ?_
            rintro e w1 ⟨rfl, hb1⟩
            have cT := (BX.below hb1).cell
            go_wp2_with fail
            all_goals
              refine (FT.out _).mono ?_
              rintro e w' ⟨rfl, rfl⟩
              go_wp2_with fail
              go_ret
              exact ⟨rfl, bel1 hb1⟩
        · obtain rfl : M = false := M0.out (fun hh => hw4 (by have := hh.2.2; dsimp only at this; omega))
          go_enter Try.func15, Try.ntmps15
          go_wp2_with fail
          refine (CN.out _).mono ?_
          rintro e w1 ⟨rfl, hb1⟩
          have cT := (BX.below hb1).cell
          go_wp2_with fail
          all_goals
            go_ret
            exact ⟨rfl, bel1 hb1⟩
set_option maxHeartbeats 4000000 in
theorem rmay_any (s : Sy) (w : World) (h : s.wf) : Calls Try.prog 16 #[s.val] w fun e w' => e = .returned (.bool s.may) ∧ Below w.heap.size w w' := by
  have M1 := Lib.hid (may_iff s)
  have M0 := Lib.hid (may_no s)
  obtain ⟨M, hM⟩ : ∃ M, s.may = M := ⟨_, rfl⟩
  rw [hM] at M0 M1 ⊢
  clear hM
  obtain ⟨nm, ar, at_, wd, bg, sg, mu, ad⟩ := s
  obtain ⟨h1, h2, h3, h4, h5, h6, h7⟩ := h
  dsimp only at h1 h2 h3 h4 h5 h6 h7
  have cT := (Blk.new w 24 #[.string nm, .int .u8 ar, .int .u32 at_, .int .i64 wd, .bool bg, .bool sg, .int .i32 mu, .int .i32 ad]).cell
  obtain ⟨n, hn⟩ : ∃ n, nm.size = n := ⟨_, rfl⟩
  have h63 : (n : Int) ≤ 9223372036854775807 := by omega
  rw [← hn] at h63
  clear h1 hn
  go_enter Try.func16, Try.ntmps16
  go_wp2_with fail
  go_loopw [3] (fun iv wx => ∃ k : Nat, k ≤ nm.size ∧ iv = .int .i64 k ∧ (∀ j, j < k → 32 < byteAt nm j) ∧ wx = w.alloc (.cells #[.string nm, .int .u8 ar, .int .u32 at_, .int .i64 wd, .bool bg, .bool sg, .int .i32 mu, .int .i32 ad] 24)) (fun iv _ => nm.size - (intOf iv).toNat)
  case atStart => exact ⟨0, Nat.zero_le _, rfl, fun j h => by omega, rfl⟩
  case round =>
    obtain ⟨k, hk, rfl, hno, rfl⟩ := hrel
    have HNO := Lib.hid hno
    clear hno
    by_cases hlt : k < nm.size
    · have hltI : (k : Int) < nm.size := by omega
      have hbk := byteAt_get nm k hlt
      by_cases h32 : byteAt nm k ≤ 32
      · obtain rfl : M = false := M0.out (fun hh => by have := hh.1.1; rw [ctl_yes nm k hlt h32] at this; cases this)
        have hb : (nm[k].toNat : Int) ≤ 32 := by omega
        clear h32 hbk
        go_wp2_with fail
        go_ret
        exact ⟨rfl, bl1 _ _⟩
      · have hb : ¬ (nm[k].toNat : Int) ≤ 32 := by omega
        have HB : Hid (32 < byteAt nm k) := by show _ < _; omega
        clear h32 hbk
        go_wp2_with fail
        go_roundw
        case rel =>
          refine ⟨k + 1, by omega, by go_num, fun j hj => ?_, trivial⟩
          rcases Nat.lt_or_ge j k with h | h
          · exact HNO.out j h
          · obtain rfl : j = k := by omega
            exact HB.out
        case measure => simp [intOf]; omega
    · obtain rfl : k = nm.size := by omega
      have hct := ctl_no nm (fun j hj => HNO.out j hj)
      have M2 : Hid ((1 ≤ nm.size ∧ nm.size ≤ 32) ∧ (mu ≠ 0 ∧ -16777216 ≤ mu ∧ mu ≤ 16777216) ∧ (wd = 1 ∨ wd = 2 ∨ wd = 4) → M = true) := fun hh => M1.out.2 ⟨⟨hct, hh.1⟩, hh.2⟩
      have M3 : Hid (¬ ((1 ≤ nm.size ∧ nm.size ≤ 32) ∧ (mu ≠ 0 ∧ -16777216 ≤ mu ∧ mu ≤ 16777216) ∧ (wd = 1 ∨ wd = 2 ∨ wd = 4)) → M = false) := fun hh => M0.out fun h => hh ⟨h.1.2, h.2⟩
      clear hct hlt hk HNO M0 M1
      by_cases c1 : (1 : Int) ≤ nm.size
      · by_cases c2 : (nm.size : Int) ≤ 32
        · by_cases c3 : wd = 1 ∨ wd = 2 ∨ wd = 4
          · have c3' := Lib.hid c3
            by_cases c4 : mu = 0
            · obtain rfl : M = false := M3.out (fun h => h.2.1.1 c4)
              subst c4
              rcases c3 with rfl | rfl | rfl
              all_goals
                go_wp2_with fail
                go_ret
                exact ⟨rfl, bl1 _ _⟩
            · have c4b : (mu != 0) = true := by simpa using c4
              by_cases c5 : -16777216 ≤ mu
              · by_cases c6 : mu ≤ 16777216
                · obtain rfl : M = true := M2.out ⟨by omega, ⟨c4, c5, c6⟩, c3⟩
                  rcases c3 with rfl | rfl | rfl
                  all_goals
                    go_wp2_with fail
                    go_ret
                    exact ⟨rfl, bl1 _ _⟩
                · obtain rfl : M = false := M3.out (fun h => c6 h.2.1.2.2)
                  rcases c3 with rfl | rfl | rfl
                  all_goals
                    go_wp2_with fail
                    go_ret
                    exact ⟨rfl, bl1 _ _⟩
              · obtain rfl : M = false := M3.out (fun h => c5 h.2.1.2.1)
                rcases c3 with rfl | rfl | rfl
                all_goals
                  go_wp2_with fail
                  go_ret
                  exact ⟨rfl, bl1 _ _⟩
          · obtain rfl : M = false := M3.out (fun h => c3 h.2.2)
            have d1 : (wd == 1) = false := by rw [beq_eq_false_iff_ne]; omega
            have d2 : (wd == 2) = false := by rw [beq_eq_false_iff_ne]; omega
            have d4 : (wd == 4) = false := by rw [beq_eq_false_iff_ne]; omega
            clear c3
            go_wp2_with fail
            go_ret
            exact ⟨rfl, bl1 _ _⟩
        · obtain rfl : M = false := M3.out (fun h => c2 (by omega))
          go_wp2_with fail
          go_ret
          exact ⟨rfl, bl1 _ _⟩
      · obtain rfl : M = false := M3.out (fun h => c1 (by omega))
        go_wp2_with fail
        go_ret
        exact ⟨rfl, bl1 _ _⟩
end Go.Proofs.Ytmcmlglacblkiaa
