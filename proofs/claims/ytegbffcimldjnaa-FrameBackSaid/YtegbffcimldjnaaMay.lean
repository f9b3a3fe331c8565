import Derived.Test.YtegbffcimldjnaaFrameR
namespace Go.Proofs.Ytegbffcimldjnaa
open Go.RowKit
set_option linter.unusedVariables false
set_option linter.unusedSimpArgs false

theorem eq24 (a0 a1 a2 a3 a4 a5 a6 a7 b0 b1 b2 b3 b4 b5 b6 b7 : Int) (w : World) :
    (Op.equalIn 10000 24 (.agg #[.int .u8 a0, .int .u8 a1, .int .u8 a2, .int .u8 a3, .int .u8 a4, .int .u8 a5, .int .u8 a6, .int .u8 a7]) (.agg #[.int .u8 b0, .int .u8 b1, .int .u8 b2, .int .u8 b3, .int .u8 b4, .int .u8 b5, .int .u8 b6, .int .u8 b7])).run Try.prog w =
      .ok (a0 == b0 && a1 == b1 && a2 == b2 && a3 == b3 && a4 == b4 && a5 == b5 && a6 == b6 && a7 == b7) w :=
  run_equalIn_8 Try.underlying24 Try.underlying5 (fun w => Try.sizeOf5 w) 9998 _ _ _ _ _ _ _ _ _ _ _ _ _ _ _ _ w

theorem eq24' (a0 a1 a2 a3 a4 a5 a6 a7 b0 b1 b2 b3 b4 b5 b6 b7 : Int) (w : World) :
    (Op.equalIn 9999 24 (.agg #[.int .u8 a0, .int .u8 a1, .int .u8 a2, .int .u8 a3, .int .u8 a4, .int .u8 a5, .int .u8 a6, .int .u8 a7]) (.agg #[.int .u8 b0, .int .u8 b1, .int .u8 b2, .int .u8 b3, .int .u8 b4, .int .u8 b5, .int .u8 b6, .int .u8 b7])).run Try.prog w =
      .ok (a0 == b0 && a1 == b1 && a2 == b2 && a3 == b3 && a4 == b4 && a5 == b5 && a6 == b6 && a7 == b7) w :=
  run_equalIn_8 Try.underlying24 Try.underlying5 (fun w => Try.sizeOf5 w) 9997 _ _ _ _ _ _ _ _ _ _ _ _ _ _ _ _ w

theorem eq26 (i0 : Int) (e0 : Bool) (l0 a0 a1 a2 a3 a4 a5 a6 a7 : Int) (i1 : Int) (e1 : Bool) (l1 b0 b1 b2 b3 b4 b5 b6 b7 : Int) (w : World) :
    (Op.equalIn 10000 26 (.agg #[.int .u32 i0, .bool e0, .int .i64 l0, .int .u8 a0, .int .u8 a1, .int .u8 a2, .int .u8 a3, .int .u8 a4, .int .u8 a5, .int .u8 a6, .int .u8 a7]) (.agg #[.int .u32 i1, .bool e1, .int .i64 l1, .int .u8 b0, .int .u8 b1, .int .u8 b2, .int .u8 b3, .int .u8 b4, .int .u8 b5, .int .u8 b6, .int .u8 b7])).run Try.prog w =
      .ok (Fr.eqb ⟨i0, e0, l0, [a0, a1, a2, a3, a4, a5, a6, a7]⟩ ⟨i1, e1, l1, [b0, b1, b2, b3, b4, b5, b6, b7]⟩) w := by
  have hS : Try.prog.underlying 26 = some (.struct (Try.prog.fieldsOf 26)) := by kernel_rfl
  have hp : Try.prog.stoodInHeld 26 = false := by kernel_rfl
  have u22 := Try.underlying22
  have u4 := Try.underlying4
  have u3 := Try.underlying3
  have h24 := eq24'
  rw [show (10000 : Nat) = 9999 + 1 from rfl, run_equalIn_agg w 9999 26 _ _ hS hp]
  simp only [Program.fieldsOf, Try.underlying26]
  go_simp
  have hg : ∀ (c0 c1 c2 c3 c4 c5 c6 c7 : Int) id ext len, (Fr.mk id ext len [c0, c1, c2, c3, c4, c5, c6, c7]).g = fun i => [c0, c1, c2, c3, c4, c5, c6, c7].getD i 0 := fun _ _ _ _ _ _ _ _ _ _ _ => rfl
  simp only [Fr.eqb, hg]
  simp only [List.getD_cons_zero, List.getD_cons_succ]
  generalize (a0 == b0 && a1 == b1 && a2 == b2 && a3 == b3 && a4 == b4 && a5 == b5 && a6 == b6 && a7 == b7) = x
  by_cases h0 : i0 = i1 <;> by_cases h1 : e0 = e1 <;> by_cases h2 : l0 = l1 <;> cases x <;> simp [h0, h1, h2]

attribute [local go_sem] Builtin.copy_ Builtin.lenOf Builtin.firstCells storeCells loadCells loadCellsFrom in
set_option maxHeartbeats 1000000 in
theorem may_any (f : Fr) (w : World) (hf : f.wf) :
    Calls Try.prog 16 #[f.val] w fun e w' => e = .returned (.bool f.may) ∧ Below w.heap.size w w' := by
  obtain ⟨id, ext, len, bs⟩ := f
  obtain ⟨h0, h1, h2, h3, -⟩ := hf
  dsimp only at h0 h1 h2 h3
  have heq := eq24
  by_cases hk : kn id ext = true
  · by_cases hl : len < 0
    · have e1 : (Fr.mk id ext len bs).may = false := by simp [Fr.may]; omega
      rw [e1]; clear e1
      go_enter Try.func16, Try.ntmps16
      go_wp2_with (go_at_call 23; refine (known_any _ _ _ h0 h1).mono ?_; rintro e w' ⟨rfl, rfl⟩)
      go_returns
      exact ⟨rfl, by go_grown⟩
    · by_cases h8 : 8 < len
      · have e1 : (Fr.mk id ext len bs).may = false := by simp [Fr.may]; omega
        have hl' : 0 ≤ len := by omega
        rw [e1]; clear e1
        go_enter Try.func16, Try.ntmps16
        go_wp2_with (go_at_call 23; refine (known_any _ _ _ h0 h1).mono ?_; rintro e w' ⟨rfl, rfl⟩)
        go_returns
        exact ⟨rfl, by go_grown⟩
      · have hc : len = 0 ∨ len = 1 ∨ len = 2 ∨ len = 3 ∨ len = 4 ∨ len = 5 ∨ len = 6 ∨ len = 7 ∨ len = 8 := by omega
        clear hl h8 h2 h3
        rcases hc with rfl | rfl | rfl | rfl | rfl | rfl | rfl | rfl | rfl
        all_goals
          go_enter Try.func16, Try.ntmps16
          go_wp2_with (go_at_call 23; refine (known_any _ _ _ h0 h1).mono ?_; rintro e w' ⟨rfl, rfl⟩)
          go_region
          go_wp2
          go_returns
          exact ⟨ret_bool (by simp [Fr.may, Fr.zeros, hk, List.range_succ, Bool.and_assoc]), by go_grown⟩
  · have hk' : kn id ext = false := by simpa using hk
    have e1 : (Fr.mk id ext len bs).may = false := by simp [Fr.may, hk']
    rw [e1]; clear e1 hk
    go_enter Try.func16, Try.ntmps16
    go_wp2_with (go_at_call 23; refine (known_any _ _ _ h0 h1).mono ?_; rintro e w' ⟨rfl, rfl⟩)
    go_returns
    exact ⟨rfl, by go_grown⟩
end Go.Proofs.Ytegbffcimldjnaa
