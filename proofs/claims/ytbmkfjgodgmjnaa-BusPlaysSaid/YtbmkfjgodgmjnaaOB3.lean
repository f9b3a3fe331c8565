/- Three booleans that came in, opened. -/
import Derived.Test.YtbmkfjgodgmjnaaOpenF
import Derived.Laws.IdiomArrays
namespace Go.Proofs.Ytbmkfjgodgmjnaa
open Go.RowKit Go.ChangeShapes Go.WideShapes Go.ChangeAt
set_option linter.unusedVariables false
set_option linter.unusedSimpArgs false
theorem under66 : ∃ e, Try.prog.underlying 66 = some (.array 3 e) ∧ e = 4 := ⟨_, Try.underlying66, rfl⟩
theorem cells66 : Try.prog.cellsOf 66 = 3 := by kernel_rfl
theorem open_bool3 {H : Type} {enc : TypeId × Value → H} {W : World} {base b0 : Nat} {r : Reach} {spare : Nat → Bool} {held : Bool} {v : Value} {d : DataW H} {p : List MemPlace}
    (hv : Value.okWide Try.prog W r b0 66 v) (h : DataW.Trod enc Try.prog W base spare held 66 v d p) : ∃ l0 l1 l2 : Bool, v = .agg #[.bool l0, .bool l1, .bool l2] := by
  obtain ⟨e, hu, rfl⟩ := under66
  simp only [Value.okWide, hu] at hv
  obtain ⟨cs, rfl, h2, _⟩ := hv
  rw [cells66] at h2
  obtain ⟨fuel, hf⟩ := h
  match cs, h2 with
  | ⟨[c0, c1, c2]⟩, _ =>
    obtain ⟨y0, y1, y2, n, -, t0, t1, t2⟩ := trod_array3 hu (by kernel_rfl) (show DataW.trod enc Try.prog W base spare held fuel 66 [c0, c1, c2] = some _ from hf)
    obtain ⟨b0, e0, -⟩ := DataW.trod_bool Try.underlying4 t0
    obtain ⟨b1, e1, -⟩ := DataW.trod_bool Try.underlying4 t1
    obtain ⟨b2, e2, -⟩ := DataW.trod_bool Try.underlying4 t2
    simp only [List.cons.injEq, and_true] at e0 e1 e2
    subst e0 e1 e2
    exact ⟨b0, b1, b2, rfl⟩
end Go.Proofs.Ytbmkfjgodgmjnaa
