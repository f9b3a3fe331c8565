/- SymSteps: the plain law; its own function. -/
import Derived.Test.YtmcmlglacblkiaaY5
import Derived.Test.YtmcmlglacblkiaaY7
namespace Go.Proofs.Ytmcmlglacblkiaa
open Go.RowKit
set_option linter.unusedVariables false
set_option linter.unusedSimpArgs false
/-- The least, and one more than the greatest, of so many bytes. -/
def loS (n : Nat) (sg : Bool) : Int := if sg then -((256 : Int) ^ n / 2) else 0
def hiS (n : Nat) (sg : Bool) : Int := loS n sg + (256 : Int) ^ n
theorem fits_range (v : Int) (n : Nat) (sg : Bool) (hn : n = 1 ∨ n = 2 ∨ n = 4) : fits v n sg = true ↔ loS n sg ≤ v ∧ v < hiS n sg := by
  cases sg
  · rw [fits_un' v n hn]
    rcases hn with rfl | rfl | rfl <;> simp [loS, hiS]
  · rw [fits_sg' v n hn]
    unfold sgn
    rcases hn with rfl | rfl | rfl <;> simp [loS, hiS] <;> omega
theorem range_bd (n : Nat) (sg : Bool) (hn : n = 1 ∨ n = 2 ∨ n = 4) : -4294967296 < loS n sg ∧ hiS n sg ≤ 4294967296 := by
  cases sg <;> rcases hn with rfl | rfl | rfl <;> simp [loS, hiS]
theorem step_yes (s : Sy) (n : Nat) (v : Int) (hm : s.may = true) (hn : s.wd = n) (hn3 : n = 1 ∨ n = 2 ∨ n = 4) (ha : -2147483648 ≤ s.ad ∧ s.ad ≤ 2147483647) (hv : loS n s.sg ≤ v ∧ v < hiS n s.sg) : ∃ l, s.putV (s.mu * v + s.ad) = some l := by
  have hmi := (may_iff s).1 hm
  have hb := range_bd n s.sg hn3
  have hmb := mul_bd s.mu v 16777216 4294967296 hmi.2.1.2.1 hmi.2.1.2.2 (by omega) (by omega) (by decide) (by decide)
  have hd : s.mu * v + s.ad - s.ad = s.mu * v := by omega
  have hq : s.quo (s.mu * v + s.ad) = v := by
    unfold Sy.quo
    rw [hd, Int.mul_tdiv_cancel_left _ hmi.2.1.1]
  exact ⟨_, putV_yes s _ ⟨hm, by omega, by omega, by rw [hd]; exact Int.mul_tmod_right _ _, by rw [hq, hn]; exact (fits_range v n s.sg hn3).2 hv⟩⟩
theorem step_no (s : Sy) (n : Nat) (v : Int) (hm : s.may = true) (hn : s.wd = n) (hn3 : n = 1 ∨ n = 2 ∨ n = 4) (hv : ¬ (loS n s.sg ≤ v ∧ v < hiS n s.sg)) : s.putV (s.mu * v + s.ad) = none := by
  have hmi := (may_iff s).1 hm
  refine putV_no s _ fun h => hv ?_
  have hd : s.mu * v + s.ad - s.ad = s.mu * v := by omega
  have h5 := h.2.2.2.2
  unfold Sy.quo at h5
  rw [hd, Int.mul_tdiv_cancel_left _ hmi.2.1.1, hn] at h5
  exact (fits_range v n s.sg hn3).1 h5
theorem step_off (s : Sy) (v : Int) (hm : s.may = true) (h1 : s.mu ≠ 1) (h2 : s.mu ≠ -1) : s.putV (s.mu * v + s.ad + 1) = none := by
  have hmi := (may_iff s).1 hm
  refine putV_no s _ fun h => ?_
  have hd : s.mu * v + s.ad + 1 - s.ad = s.mu * v + 1 := by omega
  have h4 := h.2.2.2.1
  rw [hd] at h4
  have hdv : s.mu ∣ s.mu * v + 1 := Int.dvd_of_tmod_eq_zero h4
  have hd1 : s.mu ∣ 1 := (Int.dvd_add_right (Int.dvd_mul_right s.mu v)).1 hdv
  have h6 : s.mu.natAbs ∣ (1 : Int).natAbs := Int.natAbs_dvd_natAbs.2 hd1
  have h7 : s.mu.natAbs = 1 := Nat.dvd_one.1 h6
  omega
set_option maxHeartbeats 4000000 in
/-- SymSteps' own function, of a meaning that has bytes. -/
theorem of_any (s : Sy) (n : Nat) (v : Int) (g : Nat) (w : World) (h : s.wf) (hm : s.may = true) (hn : s.wd = n) (hn3 : n = 1 ∨ n = 2 ∨ n = 4) (hv : loS n s.sg ≤ v ∧ v < hiS n s.sg) (hg : Blk w g 24 s.cs) :
    Calls Try.prog 17 #[.int .i64 v, .pointer (some ⟨g, 0, none⟩)] w fun e w' => e = .returned (.bool true) ∧ Below w.heap.size w w' := by
  have hmi := (may_iff s).1 hm
  have hb := range_bd n s.sg hn3
  have hmb := mul_bd s.mu v 16777216 4294967296 hmi.2.1.2.1 hmi.2.1.2.2 (by omega) (by omega) (by decide) (by decide)
  obtain ⟨l, hl⟩ := step_yes s n v hm hn hn3 ⟨h.ad0, h.ad1⟩ hv
  obtain ⟨P, hP⟩ : ∃ P, s.mu * v = P := ⟨_, rfl⟩
  rw [hP] at hmb hl
  obtain ⟨Q, hQ⟩ : ∃ Q, P + s.ad = Q := ⟨_, rfl⟩
  have ha0 := h.ad0
  have ha1 := h.ad1
  have k1 : IntKind.i64.wrap (s.mu * v) = P := by rw [hP, IntKind.wrap_i64]; omega
  have k2 : IntKind.i64.wrap (P + s.ad) = Q := by rw [hQ, IntKind.wrap_i64]; omega
  have PT := Lib.hid fun (W : World) => sput_any s Q W h (by omega) (by omega)
  rw [← hQ, hl, hQ] at PT
  obtain ⟨t1, t2, t3, t4⟩ := back2 s _ l hl
  have TK := Lib.hid fun (W : World) (B : Nat) (A' : Option Addr) (d : Nat) (ho : Own W B 5 1 A' l.length d (u8s l)) => stake_any s A' l.length d l W h rfl ho.rd ho.2.1 (by rcases hn3 with h | h | h <;> omega) ho.2.2.1 t4
  rw [t1, hQ] at TK
  have g2 := h.mu0
  have g3 := h.mu1
  have cG := hg.cell
  have hm1 := hmi.2.1.2.1
  have hm2 := hmi.2.1.2.2
  clear hmi hb hmb hl hP hQ t1 t2 t3 t4 hv hn hn3 hm
  obtain ⟨nm, ar, at_, wd, bg, sg, mu, ad⟩ := s
  dsimp only at k1 k2 ha0 ha1 g2 g3 hm1 hm2
  clear h
  go_enter Try.func17, Try.ntmps17
  go_wp2_with fail
  refine (PT.out _).mono ?_
  rintro e w1 ⟨A1, d1, rfl, ho1, hb1⟩
  have cG1 := (hg.below hb1).cell
  clear cG
  go_wp2_with fail
  refine (TK.out _ _ _ _ ho1).mono ?_
  rintro e w2 ⟨rfl, hb2⟩
  have cG2 := ((hg.below hb1).below hb2).cell
  clear cG1
  go_wp2_with fail
  go_ret
  exact ⟨rfl, bel2 hb1 hb2⟩
theorem and1023 (x : Int) : 0 ≤ bits .and .i64 x 1023 ∧ bits .and .i64 x 1023 < 1024 := by
  have h1 : (BitVec.ofInt 64 x &&& BitVec.ofInt 64 1023).toNat ≤ 1023 := by
    rw [BitVec.toNat_and]
    exact Nat.and_le_right
  have h2 : bits .and .i64 x 1023 = IntKind.i64.wrap ((BitVec.ofInt 64 x &&& BitVec.ofInt 64 1023).toNat : Int) := rfl
  rw [h2, IntKind.wrap_i64]
  omega
theorem ctl_x : ctl ⟨#[120]⟩ = false := by decide
theorem blk_two (w : World) (o : Obj) (t : TypeId) (cs : Array Value) : Blk ((w.alloc o).alloc (.cells cs t)).drew (w.heap.size + 1) t cs := by
  have := Blk.new (w.alloc o) t cs
  rw [World.size_alloc] at this
  exact this.drew
theorem put_none (s : Sy) (n : Nat) (v V : Int) (W : World) (h : s.wf) (hm : s.may = true) (hn : s.wd = n) (hn3 : n = 1 ∨ n = 2 ∨ n = 4) (hv : ¬ (loS n s.sg ≤ v ∧ v < hiS n s.sg)) (hvb : -8589934592 ≤ v ∧ v ≤ 8589934592) (hV : V = s.mu * v + s.ad) :
    Calls Try.prog 10 #[s.val, .int .i64 V] W (PtP W none) := by
  have hmi := (may_iff s).1 hm
  have hmb := mul_bd s.mu v 16777216 8589934592 hmi.2.1.2.1 hmi.2.1.2.2 (by omega) (by omega) (by decide) (by decide)
  have h0 := h.ad0
  have h1 := h.ad1
  have := sput_any s V W h (by omega) (by omega)
  rw [hV, step_no s n v hm hn hn3 hv, ← hV] at this
  exact this
theorem put_some (s : Sy) (v V : Int) (W : World) (h : s.wf) (hm : s.may = true) (hvb : -8589934592 ≤ v ∧ v ≤ 8589934592) (hV : V = s.mu * v + s.ad + 1) :
    Calls Try.prog 10 #[s.val, .int .i64 V] W (PtP W (s.putV (s.mu * v + s.ad + 1))) := by
  have hmi := (may_iff s).1 hm
  have hmb := mul_bd s.mu v 16777216 8589934592 hmi.2.1.2.1 hmi.2.1.2.2 (by omega) (by omega) (by decide) (by decide)
  have h0 := h.ad0
  have h1 := h.ad1
  have := sput_any s V W h (by omega) (by omega)
  rw [hV] at this ⊢
  exact this
end Go.Proofs.Ytmcmlglacblkiaa
