import Derived.Test.YtegbffcimldjnaaPad
import Derived.Test.YtegbffcimldjnaaShown
import Derived.Test.YtegbffcimldjnaaConv
namespace Go.Proofs.Ytegbffcimldjnaa
open Go.RowKit
set_option linter.unusedVariables false
set_option linter.unusedSimpArgs false
theorem Fr.eqb_refl' (f : Fr) : Fr.eqb ⟨f.id, f.ext, f.len, [f.g 0, f.g 1, f.g 2, f.g 3, f.g 4, f.g 5, f.g 6, f.g 7]⟩ ⟨f.id, f.ext, f.len, [f.g 0, f.g 1, f.g 2, f.g 3, f.g 4, f.g 5, f.g 6, f.g 7]⟩ = true := by simp [Fr.eqb]
theorem eq26_self (f : Fr) (w : World) : (Op.equalIn 10000 26 f.val f.val).run Try.prog w = .ok true w := by
  rw [eq26, Fr.eqb_refl']

set_option maxHeartbeats 4000000 in
theorem reads_any (f : Fr) (c : Int) (w : World) (hf : f.wf) :
    Calls Try.prog 8 #[f.val, .int .u8 c] w fun e w' => e = .returned (.bool true) ∧ Below w.heap.size w w' := by
  have hE := fun W => eq26_self (f.pad c) W
  go_enter Try.func8, Try.ntmps8
  go_wp2_with fail
  refine wp_named fun W hW => ?_
  obtain ⟨B1, hbW⟩ := blk1 hW
  clear hW
  have hr1 := B1.rule
  go_region_held (fun w' => Below W.heap.size W w') (first | exact (Below.refl _ _).drew | exact bel2 (by assumption) (by assumption))
    (first
      | (go_at_call 13; (with_reducible refine (shown_any _).mono ?_); rintro e w1 ⟨rfl, hb1⟩)
      | (go_at_call 16; (with_reducible refine (may_any f _ hf).mono ?_); rintro e w2 ⟨rfl, hb2⟩)
      | (go_at_call 18; (with_reducible refine (refmay_any f _ hf).mono ?_); rintro e w3 ⟨rfl, hb3⟩)
      | (go_at_call 17; (with_reducible refine (bytes_any f _ hf).mono ?_); rintro e w4 ⟨A4, c4, rfl, ho4, hb4⟩; have r4 := ho4.conv Try.underlying23 Try.underlying5 Try.underlying9 rfl; have z4 := Below.refl w4.heap.size w4)
      | (go_at_call 19; (with_reducible refine (refbytes_any f _ hf).mono ?_); rintro e w5 ⟨A5, c5, rfl, ho5, hb5⟩; have r5 := ho5.conv Try.underlying23 Try.underlying5 Try.underlying9 rfl; have z5 := Below.refl w5.heap.size w5)
      | (go_at_call 20; (with_reducible refine (pad_any f c _ hf).mono ?_); rintro e w6 ⟨rfl, hb6⟩)
      | (go_at_call 21; (with_reducible refine (refpad_any f c _ hf).mono ?_); rintro e w7 ⟨rfl, hb7⟩)
      | (go_at_call 14; (with_reducible refine (rank_any f _ hf).mono ?_); rintro e w8 ⟨rfl, hb8⟩)
      | (go_at_call 22; (with_reducible refine (refrank_any f _ hf).mono ?_); rintro e w9 ⟨rfl, hb9⟩))
  all_goals
    have hfin : Below W.heap.size W w9 := by assumption
    go_wp2
    go_ret
    exact ⟨rfl, bel2 hbW hfin⟩
end Go.Proofs.Ytegbffcimldjnaa
