import Derived.Test.YtegbffcimldjnaaRank
namespace Go.Proofs.Ytegbffcimldjnaa
open Go.RowKit
set_option linter.unusedVariables false
set_option linter.unusedSimpArgs false


theorem Fr.wf_lit (id : Int) (ext : Bool) (len : Int) (h0 : 0 ≤ id) (h1 : id < 4294967296) (h2 : -9223372036854775808 ≤ len) (h3 : len ≤ 9223372036854775807) : (Fr.mk id ext len []).wf :=
  ⟨h0, h1, h2, h3, fun i => by simp [Fr.g]⟩

theorem rank_c1 (w : World) : Calls Try.prog 14 #[.agg #[.int .u32 1, .bool false, .int .i64 0, .int .u8 0, .int .u8 0, .int .u8 0, .int .u8 0, .int .u8 0, .int .u8 0, .int .u8 0, .int .u8 0]] w fun e w' => e = .returned (.int .u32 524288) ∧ Below w.heap.size w w' := by
  have h := rank_any ⟨1, false, 0, []⟩ w (Fr.wf_lit _ _ _ (by omega) (by omega) (by omega) (by omega))
  have e : Fr.rank ⟨1, false, 0, []⟩ = 524288 := by decide
  rw [e] at h
  exact h
theorem rank_c2 (w : World) : Calls Try.prog 14 #[.agg #[.int .u32 262144, .bool true, .int .i64 0, .int .u8 0, .int .u8 0, .int .u8 0, .int .u8 0, .int .u8 0, .int .u8 0, .int .u8 0, .int .u8 0]] w fun e w' => e = .returned (.int .u32 786432) ∧ Below w.heap.size w w' := by
  have h := rank_any ⟨262144, true, 0, []⟩ w (Fr.wf_lit _ _ _ (by omega) (by omega) (by omega) (by omega))
  have e : Fr.rank ⟨262144, true, 0, []⟩ = 786432 := by decide
  rw [e] at h
  exact h
theorem make_c (w : World) : Calls Try.prog 10 #[.int .u32 5, .bool false, .slice (some ⟨w.heap.size, 0, none⟩) 2 2] (w.alloc (.cells #[.int .u8 1, .int .u8 2] 5)) fun e w' =>
    e = .returned (.tuple #[.agg #[.int .u32 5, .bool false, .int .i64 2, .int .u8 1, .int .u8 2, .int .u8 0, .int .u8 0, .int .u8 0, .int .u8 0, .int .u8 0, .int .u8 0], .int .i64 0]) ∧ Below w.heap.size w w' := by
  have h := make_any 5 false (some ⟨w.heap.size, 0, none⟩) [1, 2] 2 (w.alloc (.cells #[.int .u8 1, .int .u8 2] 5)) (by omega) (by omega)
    (fun _ => ⟨w.heap.size, 0, rfl, by simp, fun i u hu => by
      rw [World.cell?_alloc_at _ _ _ _ rfl]
      match i, hu with
      | 0, hu | 1, hu => simpa using hu
      | i + 2, hu => simp at hu⟩) (by simp [maxLen])
  have e1 : mkF 5 false [1, 2] = ⟨5, false, 2, [1, 2]⟩ := rfl
  have e2 : mkE 5 false [1, 2] = 0 := rfl
  rw [e1, e2] at h
  refine Calls.mono (R := fun e w' => e = .returned (.tuple #[.agg #[.int .u32 5, .bool false, .int .i64 2, .int .u8 1, .int .u8 2, .int .u8 0, .int .u8 0, .int .u8 0, .int .u8 0, .int .u8 0, .int .u8 0], .int .i64 0]) ∧ _) h fun e w' ⟨he, hb⟩ => ⟨he, bel1 hb⟩

set_option maxHeartbeats 1000000 in
theorem shown_any (w : World) : Calls Try.prog 13 #[] w fun e w' => e = .returned (.bool true) ∧ Below w.heap.size w w' := by
  go_enter Try.func13, Try.ntmps13
  go_wp2_with fail
  refine (make_c _).mono ?_
  rintro e w1 ⟨rfl, hb1⟩
  go_wp2_with fail
  refine (rank_c1 _).mono ?_
  rintro e w2 ⟨rfl, hb2⟩
  go_wp2_with fail
  refine (rank_c2 _).mono ?_
  rintro e w3 ⟨rfl, hb3⟩
  go_wp2_with fail
  go_ret
  exact ⟨rfl, bel2 (bel2 hb1 (bel1 hb2)) hb3⟩
end Go.Proofs.Ytegbffcimldjnaa
