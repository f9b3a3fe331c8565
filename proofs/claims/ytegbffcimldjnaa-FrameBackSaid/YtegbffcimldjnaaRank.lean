import Derived.Test.YtegbffcimldjnaaMayR
namespace Go.Proofs.Ytegbffcimldjnaa
open Go.RowKit
set_option linter.unusedVariables false
set_option linter.unusedSimpArgs false

theorem rank_bits (id : Int) (h0 : 0 ≤ id) (h1 : id < 536870912) :
    bits .or .u32 (bits .or .u32 (id / 262144 * 524288) 262144) (bits .and .u32 id 262143) = id / 262144 * 524288 + 262144 + id % 262144 := by
  obtain ⟨n, rfl⟩ := Int.eq_ofNat_of_zero_le h0
  have hn : n < 536870912 := by omega
  have e1 : ((n : Int) / 262144 * 524288) = ((524288 * (n / 262144) : Nat) : Int) := by omega
  have e2 : 524288 * (n / 262144) ||| 262144 = 524288 * (n / 262144) + 262144 := by
    have := Nat.two_pow_add_eq_or_of_lt (i := 19) (b := 262144) (by decide) (n / 262144)
    simpa using this.symm
  have e3 : n &&& 262143 = n % 262144 := by
    have := Nat.and_two_pow_sub_one_eq_mod n 18
    simpa using this
  have e4 : (524288 * (n / 262144) + 262144) ||| (n % 262144) = 524288 * (n / 262144) + 262144 + n % 262144 := by
    have := Nat.two_pow_add_eq_or_of_lt (i := 18) (b := n % 262144) (by simpa using Nat.mod_lt _ (by decide)) (2 * (n / 262144) + 1)
    have h2 : 2 ^ 18 * (2 * (n / 262144) + 1) = 524288 * (n / 262144) + 262144 := by omega
    rw [h2] at this
    exact this.symm
  rw [e1, show (262144 : Int) = ((262144 : Nat) : Int) from rfl, u32_or_nat _ _ (by omega) (by omega), e2, show (262143 : Int) = ((262143 : Nat) : Int) from rfl, u32_and_nat _ _ (by omega) (by omega), e3, u32_or_nat _ _ (by omega) (by omega), e4]
  omega
theorem ret_u32 {a b : Int} (h : a = b) : Ending.returned (.int .u32 a) = .returned (.int .u32 b) := by rw [h]

set_option maxHeartbeats 1000000 in
theorem rank_any (f : Fr) (w : World) (hf : f.wf) :
    Calls Try.prog 14 #[f.val] w fun e w' => e = .returned (.int .u32 f.rank) ∧ Below w.heap.size w w' := by
  obtain ⟨id, ext, len, bs⟩ := f
  obtain ⟨h0, h1, h2, h3, -⟩ := _root_.id hf
  dsimp only at h0 h1 h2 h3
  cases hk : Fr.may ⟨id, ext, len, bs⟩
  · have HR : Hid (Fr.rank ⟨id, ext, len, bs⟩ = 4294967295) := by simp [Hid, Fr.rank, hk]
    go_enter Try.func14, Try.ntmps14
    go_wp2_with (go_at_call 16; refine (may_any ⟨id, ext, len, bs⟩ _ hf).mono ?_; rintro e w' ⟨rfl, hb⟩)
    go_ret
    exact ⟨ret_u32 HR.out.symm, bel1 hb⟩
  · have hkn : kn id ext = true := by
      simp only [Fr.may, Bool.and_eq_true] at hk; exact hk.1.1.1
    cases ext
    · have hid : id < 2048 := by simp [kn] at hkn; omega
      have HR : Hid (Fr.rank ⟨id, false, len, bs⟩ = id * 524288) := by simp [Hid, Fr.rank, hk]
      clear hkn
      go_enter Try.func14, Try.ntmps14
      go_wp2_with (go_at_call 16; refine (may_any ⟨id, false, len, bs⟩ _ hf).mono ?_; rintro e w' ⟨rfl, hb⟩; obtain ⟨hc, hz⟩ := bcell hb)
      go_ret
      exact ⟨ret_u32 HR.out.symm, bel1 hb⟩
    · have hid : id < 536870912 := by simp [kn] at hkn; omega
      have HR : Hid (Fr.rank ⟨id, true, len, bs⟩ = id / 262144 * 524288 + 262144 + id % 262144) := by simp [Hid, Fr.rank, hk]
      clear hkn
      go_enter Try.func14, Try.ntmps14
      go_wp2_with (go_at_call 16; refine (may_any ⟨id, true, len, bs⟩ _ hf).mono ?_; rintro e w' ⟨rfl, hb⟩; obtain ⟨hc, hz⟩ := bcell hb)
      go_ret
      exact ⟨ret_u32 ((rank_bits id h0 hid).trans HR.out.symm), bel1 hb⟩

set_option maxHeartbeats 1000000 in
theorem refrank_any (f : Fr) (w : World) (hf : f.wf) :
    Calls Try.prog 22 #[f.val] w fun e w' => e = .returned (.int .u32 f.rank) ∧ Below w.heap.size w w' := by
  obtain ⟨id, ext, len, bs⟩ := f
  obtain ⟨h0, h1, h2, h3, -⟩ := _root_.id hf
  dsimp only at h0 h1 h2 h3
  cases hk : Fr.may ⟨id, ext, len, bs⟩
  · have HR : Hid (Fr.rank ⟨id, ext, len, bs⟩ = 4294967295) := by simp [Hid, Fr.rank, hk]
    go_enter Try.func22, Try.ntmps22
    go_wp2_with (go_at_call 18; refine (refmay_any ⟨id, ext, len, bs⟩ _ hf).mono ?_; rintro e w' ⟨rfl, hb⟩)
    go_ret
    exact ⟨ret_u32 HR.out.symm, bel1 hb⟩
  · have hkn : kn id ext = true := by
      simp only [Fr.may, Bool.and_eq_true] at hk; exact hk.1.1.1
    cases ext
    · have hid : id < 2048 := by simp [kn] at hkn; omega
      have HR : Hid (Fr.rank ⟨id, false, len, bs⟩ = id * 524288) := by simp [Hid, Fr.rank, hk]
      clear hkn
      go_enter Try.func22, Try.ntmps22
      go_wp2_with (go_at_call 18; refine (refmay_any ⟨id, false, len, bs⟩ _ hf).mono ?_; rintro e w' ⟨rfl, hb⟩; obtain ⟨hc, hz⟩ := bcell hb)
      go_ret
      exact ⟨ret_u32 HR.out.symm, bel1 hb⟩
    · have hid : id < 536870912 := by simp [kn] at hkn; omega
      have HR : Hid (Fr.rank ⟨id, true, len, bs⟩ = id / 262144 * 524288 + 262144 + id % 262144) := by simp [Hid, Fr.rank, hk]
      clear hkn
      go_enter Try.func22, Try.ntmps22
      go_wp2_with (go_at_call 18; refine (refmay_any ⟨id, true, len, bs⟩ _ hf).mono ?_; rintro e w' ⟨rfl, hb⟩; obtain ⟨hc, hz⟩ := bcell hb)
      go_ret
      exact ⟨ret_u32 HR.out.symm, bel1 hb⟩

set_option maxHeartbeats 400000 in
theorem few_any (A : Option Addr) (n c : Nat) (w : World) (hn : n ≤ c) (hl : n ≤ maxLen) (hA : A = none → n = 0 ∧ c = 0) :
    Calls Try.prog 11 #[.slice A n c] w fun e w' => e = .returned (.slice A (min n 20) c) ∧ w = w' := by
  unfold maxLen at hl
  by_cases h : n ≤ 20
  · have h' : (n : Int) ≤ 20 := by omega
    go_enter Try.func11, Try.ntmps11
    go_wp2
    go_ret
    exact ⟨by rw [Nat.min_eq_left h]; rfl, rfl⟩
  · have h' : 20 ≤ (n : Int) := by omega
    have h2 : 20 ≤ (c : Int) := by omega
    have h3 : (20 : Int) < n := by omega
    rcases A with _ | A
    · obtain ⟨h4, -⟩ := hA rfl
      omega
    · go_enter Try.func11, Try.ntmps11
      go_wp2
      go_ret
      exact ⟨by rw [Nat.min_eq_right (by omega)]; rfl, rfl⟩
end Go.Proofs.Ytegbffcimldjnaa
