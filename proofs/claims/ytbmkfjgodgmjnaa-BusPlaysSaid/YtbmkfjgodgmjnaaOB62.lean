/- Three rows of filters that came in, opened. -/
import Derived.Test.YtbmkfjgodgmjnaaOB3
import Derived.Test.YtbmkfjgodgmjnaaCO
namespace Go.Proofs.Ytbmkfjgodgmjnaa
open Go.RowKit Go.ChangeShapes Go.WideShapes Go.ChangeAt
set_option linter.unusedVariables false
set_option linter.unusedSimpArgs false
theorem under62 : ∃ e, Try.prog.underlying 62 = some (.array 3 e) ∧ e = 22 := ⟨_, Try.underlying62, rfl⟩
theorem cells62 : Try.prog.cellsOf 62 = 3 := by kernel_rfl
theorem open_filters3 {H : Type} {enc : TypeId × Value → H} {W : World} {b0 : Nat} {r : Reach} {v : Value} {d : DataW H} {p : List MemPlace}
    (hv : Value.okWide Try.prog W r b0 62 v) (h : DataW.Trod enc Try.prog W 0 (fun _ => true) true 62 v d p) : ∃ (Ad : Nat → Option Addr) (ns cs : Nat → Nat) (xs : Nat → List Flt), v = .agg #[.slice (Ad 0) (ns 0) (cs 0), .slice (Ad 1) (ns 1) (cs 1), .slice (Ad 2) (ns 2) (cs 2)] ∧
      ∀ i, i < 3 → (xs i).length = ns i ∧ ns i ≤ cs i ∧ cs i ≤ maxLen ∧ (Ad i = none → ns i = 0 ∧ cs i = 0) ∧ Rd W W.heap.size (Ad i) (flcells (xs i)) ∧ ∀ x ∈ xs i, x.wf := by
  obtain ⟨e, hu, rfl⟩ := under62
  simp only [Value.okWide, hu] at hv
  obtain ⟨cs, rfl, h2, _⟩ := hv
  rw [cells62] at h2
  obtain ⟨fuel, hf⟩ := h
  match cs, h2 with
  | ⟨[c0, c1, c2]⟩, _ =>
    obtain ⟨y0, y1, y2, n, -, t0, t1, t2⟩ := trod_array3 hu (by kernel_rfl) (show DataW.trod enc Try.prog W 0 (fun _ => true) true fuel 62 [c0, c1, c2] = some _ from hf)
    obtain ⟨A0, n0, k0, l0, e0, a0⟩ := open_filters t0
    obtain ⟨A1, n1, k1, l1, e1, a1⟩ := open_filters t1
    obtain ⟨A2, n2, k2, l2, e2, a2⟩ := open_filters t2
    simp only [List.cons.injEq, and_true] at e0 e1 e2
    subst e0 e1 e2
    refine ⟨fun i => if i = 0 then A0 else if i = 1 then A1 else A2, fun i => if i = 0 then n0 else if i = 1 then n1 else n2, fun i => if i = 0 then k0 else if i = 1 then k1 else k2, fun i => if i = 0 then l0 else if i = 1 then l1 else l2, rfl, fun i hi => ?_⟩
    rcases (by omega : i = 0 ∨ i = 1 ∨ i = 2) with rfl | rfl | rfl
    · exact ⟨a0.2.2.2.1, a0.1, a0.2.1, a0.2.2.1, a0.2.2.2.2.2, a0.2.2.2.2.1⟩
    · exact ⟨a1.2.2.2.1, a1.1, a1.2.1, a1.2.2.1, a1.2.2.2.2.2, a1.2.2.2.2.1⟩
    · exact ⟨a2.2.2.2.1, a2.1, a2.2.1, a2.2.2.1, a2.2.2.2.2.2, a2.2.2.2.2.1⟩
end Go.Proofs.Ytbmkfjgodgmjnaa
