/- Frames: their Rank. -/
import Derived.Test.YtbmkfjgodgmjnaaF0
namespace Go.Proofs.Ytbmkfjgodgmjnaa
open Go.RowKit
set_option linter.unusedVariables false
set_option linter.unusedSimpArgs false

theorem rank_bits (id : Int) (h0 : 0 ≤ id) (h1 : id < 536870912) :
    bits .or .u32 (bits .or .u32 (id / 262144 * 524288) 262144) (bits .and .u32 id 262143) = id / 262144 * 524288 + 262144 + id % 262144 := by
  obtain ⟨n, rfl⟩ := Int.eq_ofNat_of_zero_le h0
  have hn : n < 536870912 := by omega
  have e1 : ((n : Int) / 262144 * 524288) = ((524288 * (n / 262144) : Nat) : Int) := by omega
  have e2 : 524288 * (n / 262144) ||| 262144 = 524288 * (n / 262144) + 262144 := by
    have := Nat.two_pow_add_eq_or_of_lt (i := 19) (b := 262144) (by decide) (n / 262144)
    simpa using this.symm
  have e3 : n &&& 262143 = n % 262144 := by
    have := Nat.and_two_pow_sub_one_eq_mod n 18
    simpa using this
  have e4 : (524288 * (n / 262144) + 262144) ||| (n % 262144) = 524288 * (n / 262144) + 262144 + n % 262144 := by
    have := Nat.two_pow_add_eq_or_of_lt (i := 18) (b := n % 262144) (by simpa using Nat.mod_lt _ (by decide)) (2 * (n / 262144) + 1)
    have h2 : 2 ^ 18 * (2 * (n / 262144) + 1) = 524288 * (n / 262144) + 262144 := by omega
    rw [h2] at this
    exact this.symm
  rw [e1, show (262144 : Int) = ((262144 : Nat) : Int) from rfl, u32_or_nat _ _ (by omega) (by omega), e2, show (262143 : Int) = ((262143 : Nat) : Int) from rfl, u32_and_nat _ _ (by omega) (by omega), e3, u32_or_nat _ _ (by omega) (by omega), e4]
  omega
theorem ret_u32 {a b : Int} (h : a = b) : Ending.returned (.int .u32 a) = .returned (.int .u32 b) := by rw [h]

set_option maxHeartbeats 1000000 in
theorem rank_any (f : Fr) (w : World) (hf : f.wf) :
    Calls Try.prog 50 #[f.val] w fun e w' => e = .returned (.int .u32 f.rank) ∧ Below w.heap.size w w' := by
  obtain ⟨id, ext, len, bs⟩ := f
  obtain ⟨h0, h1, h2, h3, -⟩ := _root_.id hf
  dsimp only at h0 h1 h2 h3
  cases hk : Fr.may ⟨id, ext, len, bs⟩
  · have HR : Hid (Fr.rank ⟨id, ext, len, bs⟩ = 4294967295) := by simp [Hid, Fr.rank, hk]
    go_enter Try.func50, Try.ntmps50
    go_wp2_with (go_at_call 45; refine (may_any ⟨id, ext, len, bs⟩ _ hf).mono ?_; rintro e w' ⟨rfl, hb⟩)
    go_ret
    exact ⟨ret_u32 HR.out.symm, bel1 hb⟩
  · have hkn : kn id ext = true := by
      simp only [Fr.may, Bool.and_eq_true] at hk; exact hk.1.1.1
    cases ext
    · have hid : id < 2048 := by simp [kn] at hkn; omega
      have HR : Hid (Fr.rank ⟨id, false, len, bs⟩ = id * 524288) := by simp [Hid, Fr.rank, hk]
      clear hkn
      go_enter Try.func50, Try.ntmps50
      go_wp2_with (go_at_call 45; refine (may_any ⟨id, false, len, bs⟩ _ hf).mono ?_; rintro e w' ⟨rfl, hb⟩; obtain ⟨hc, hz⟩ := bcell hb)
      go_ret
      exact ⟨ret_u32 HR.out.symm, bel1 hb⟩
    · have hid : id < 536870912 := by simp [kn] at hkn; omega
      have HR : Hid (Fr.rank ⟨id, true, len, bs⟩ = id / 262144 * 524288 + 262144 + id % 262144) := by simp [Hid, Fr.rank, hk]
      clear hkn
      go_enter Try.func50, Try.ntmps50
      go_wp2_with (go_at_call 45; refine (may_any ⟨id, true, len, bs⟩ _ hf).mono ?_; rintro e w' ⟨rfl, hb⟩; obtain ⟨hc, hz⟩ := bcell hb)
      go_ret
      exact ⟨ret_u32 ((rank_bits id h0 hid).trans HR.out.symm), bel1 hb⟩

set_option maxHeartbeats 1000000 in
theorem refrank_any (f : Fr) (w : World) (hf : f.wf) :
    Calls Try.prog 20 #[f.val] w fun e w' => e = .returned (.int .u32 f.rank) ∧ Below w.heap.size w w' := by
  obtain ⟨id, ext, len, bs⟩ := f
  obtain ⟨h0, h1, h2, h3, -⟩ := _root_.id hf
  dsimp only at h0 h1 h2 h3
  cases hk : Fr.may ⟨id, ext, len, bs⟩
  · have HR : Hid (Fr.rank ⟨id, ext, len, bs⟩ = 4294967295) := by simp [Hid, Fr.rank, hk]
    go_enter Try.func20, Try.ntmps20
    go_wp2_with (go_at_call 17; refine (refmay_any ⟨id, ext, len, bs⟩ _ hf).mono ?_; rintro e w' ⟨rfl, hb⟩)
    go_ret
    exact ⟨ret_u32 HR.out.symm, bel1 hb⟩
  · have hkn : kn id ext = true := by
      simp only [Fr.may, Bool.and_eq_true] at hk; exact hk.1.1.1
    cases ext
    · have hid : id < 2048 := by simp [kn] at hkn; omega
      have HR : Hid (Fr.rank ⟨id, false, len, bs⟩ = id * 524288) := by simp [Hid, Fr.rank, hk]
      clear hkn
      go_enter Try.func20, Try.ntmps20
      go_wp2_with (go_at_call 17; refine (refmay_any ⟨id, false, len, bs⟩ _ hf).mono ?_; rintro e w' ⟨rfl, hb⟩; obtain ⟨hc, hz⟩ := bcell hb)
      go_ret
      exact ⟨ret_u32 HR.out.symm, bel1 hb⟩
    · have hid : id < 536870912 := by simp [kn] at hkn; omega
      have HR : Hid (Fr.rank ⟨id, true, len, bs⟩ = id / 262144 * 524288 + 262144 + id % 262144) := by simp [Hid, Fr.rank, hk]
      clear hkn
      go_enter Try.func20, Try.ntmps20
      go_wp2_with (go_at_call 17; refine (refmay_any ⟨id, true, len, bs⟩ _ hf).mono ?_; rintro e w' ⟨rfl, hb⟩; obtain ⟨hc, hz⟩ := bcell hb)
      go_ret
      exact ⟨ret_u32 HR.out.symm, bel1 hb⟩

theorem eq26_any (f g : Fr) (w : World) : (Op.equalIn 10000 26 f.val g.val).run Try.prog w = .ok (f.eqb g) w := by
  rw [eq26]; simp [Fr.eqb, Fr.g]

theorem Fr.wf_lit (id : Int) (ext : Bool) (len : Int) (h0 : 0 ≤ id) (h1 : id < 4294967296) (h2 : -9223372036854775808 ≤ len) (h3 : len ≤ 9223372036854775807) : (Fr.mk id ext len []).wf :=
  ⟨h0, h1, h2, h3, fun i => by simp [Fr.g]⟩
end Go.Proofs.Ytbmkfjgodgmjnaa
