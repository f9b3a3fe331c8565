import Derived.Test.YtegbffcimldjnaaMay
namespace Go.Proofs.Ytegbffcimldjnaa
open Go.RowKit
set_option linter.unusedVariables false
set_option linter.unusedSimpArgs false

def ZerosTo (f : Fr) (n k : Nat) : Prop := ∀ j, n ≤ j → j < k → f.g j = 0
theorem zeros_yes {f : Fr} {n : Nat} (hn : f.len = n) (h : ZerosTo f n 8) : f.zeros = true := by
  simp only [Fr.zeros, List.all_eq_true, List.mem_range]
  intro i hi
  by_cases hc : i < n
  · simp [hn, hc]
  · simp [h i (by omega) hi]
theorem zeros_no {f : Fr} {n k : Nat} (hn : f.len = n) (h1 : n ≤ k) (h2 : k < 8) (h : f.g k ≠ 0) : f.zeros = false := by
  rw [Bool.eq_false_iff]
  intro hz
  simp only [Fr.zeros, List.all_eq_true, List.mem_range] at hz
  have := hz k h2
  simp [hn, h] at this
  omega

set_option maxHeartbeats 1000000 in
theorem refmay_any (f : Fr) (w : World) (hf : f.wf) :
    Calls Try.prog 18 #[f.val] w fun e w' => e = .returned (.bool f.may) ∧ Below w.heap.size w w' := by
  obtain ⟨h0, h1, h2, h3, -⟩ := hf
  by_cases hk : kn f.id f.ext = true
  · by_cases hl : f.len < 0
    · have e1 : f.may = false := by simp [Fr.may]; omega
      rw [e1]; clear e1
      go_enter Try.func18, Try.ntmps18
      go_wp2_with (go_at_call 24; refine (refknown_any _ _ _ h0 h1).mono ?_; rintro e w' ⟨rfl, rfl⟩)
      go_returns
      exact ⟨rfl, by go_grown⟩
    · by_cases h8 : 8 < f.len
      · have e1 : f.may = false := by simp [Fr.may]; omega
        have hl' : 0 ≤ f.len := by omega
        rw [e1]; clear e1
        go_enter Try.func18, Try.ntmps18
        go_wp2_with (go_at_call 24; refine (refknown_any _ _ _ h0 h1).mono ?_; rintro e w' ⟨rfl, rfl⟩)
        go_returns
        exact ⟨rfl, by go_grown⟩
      · obtain ⟨n, hn⟩ : ∃ n : Nat, f.len = n := ⟨f.len.toNat, by omega⟩
        have HM : Hid (∀ b, f.zeros = b → f.may = b) := fun b hb => by simp [Fr.may, hk, hb]; omega
        have hl' : 0 ≤ f.len := by omega
        have hl8 : f.len ≤ 8 := by omega
        have hn8 : n ≤ 8 := by omega
        have HN := Lib.hid hn
        clear hn
        go_enter Try.func18, Try.ntmps18
        go_wp2_with (go_at_call 24; refine (refknown_any _ _ _ h0 h1).mono ?_; rintro e w' ⟨rfl, rfl⟩)
        rw [show #[Value.int .u32 f.id, .bool f.ext, .int .i64 f.len, .int .u8 (f.g 0), .int .u8 (f.g 1), .int .u8 (f.g 2), .int .u8 (f.g 3), .int .u8 (f.g 4), .int .u8 (f.g 5), .int .u8 (f.g 6), .int .u8 (f.g 7)] = boxF f.id f.ext f.len f.bs from rfl]
        go_loop [3] (fun i => ∃ k : Nat, n ≤ k ∧ k ≤ 8 ∧ i = .int .i64 k ∧ Hid (ZerosTo f n k)) (fun i => 8 - (intOf i).toNat)
        case atStart => exact ⟨n, by omega, by omega, by rw [HN.out], fun j h1 h2 => by omega⟩
        case round =>
          obtain ⟨k, hk1, hk2, rfl, hz⟩ := hrel
          by_cases hlt : k < 8
          · have hg := boxF_get f.id f.ext f.len f.bs k hlt
            have hlt' : (k : Int) < 8 := by omega
            generalize hv : f.bs.getD k 0 = v at hg
            have HV : Hid (f.g k = v) := hv
            clear hv
            by_cases hv0 : v = 0
            · subst hv0
              go_wp2
              go_round
              case rel => exact ⟨k + 1, by omega, by omega, by go_num, fun j h1 h2 => by
                rcases Nat.lt_or_ge j k with h | h
                · exact hz.out j h1 h
                · obtain rfl : j = k := by omega
                  exact HV.out⟩
              case measure => simp [intOf]; omega
            · have hb : (v == 0) = false := by simpa using hv0
              have hb' : (v != 0) = true := by simpa using hv0
              go_wp2
              go_ret
              exact ⟨ret_bool (HM.out _ (zeros_no HN.out hk1 hlt (by rw [HV.out]; exact hv0))).symm, by go_grown⟩
          · obtain rfl : k = 8 := by omega
            go_wp2
            go_ret
            exact ⟨ret_bool (HM.out _ (zeros_yes HN.out hz.out)).symm, by go_grown⟩
  · have hk' : kn f.id f.ext = false := by simpa using hk
    have e1 : f.may = false := by simp [Fr.may, hk']
    rw [e1]; clear e1 hk
    go_enter Try.func18, Try.ntmps18
    go_wp2_with (go_at_call 24; refine (refknown_any _ _ _ h0 h1).mono ?_; rintro e w' ⟨rfl, rfl⟩)
    go_returns
    exact ⟨rfl, by go_grown⟩
end Go.Proofs.Ytegbffcimldjnaa
