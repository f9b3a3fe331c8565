/- Rows of filters, and of frames, that came in. -/
import Derived.Test.YtbmkfjgodgmjnaaB0
import Derived.Test.YtbmkfjgodgmjnaaRow
import Derived.Test.YtbmkfjgodgmjnaaOpenF
namespace Go.Proofs.Ytbmkfjgodgmjnaa
open Go.RowKit Go.ChangeShapes Go.WideShapes Go.ChangeAt
set_option linter.unusedVariables false
set_option linter.unusedSimpArgs false
theorem flatC_fr : ∀ l : List Fr, flatC Fr.cs l = fcells l
  | [] => rfl
  | f :: l => by rw [flatC, fcells, flatC_fr l]
theorem flatC_fl : ∀ l : List Flt, flatC Flt.cs l = flcells l
  | [] => rfl
  | f :: l => by rw [flatC, flcells, flatC_fl l]
theorem cells33 : Try.prog.cellsOf 33 = 3 := by kernel_rfl
theorem fs33 : ∃ f0 f1 f2 : Field, Try.prog.underlying 33 = some (.struct #[f0, f1, f2]) ∧ (f0.type = 23 ∧ f0.offset = 0) ∧ (f1.type = 23 ∧ f1.offset = 1) ∧ f2.type = 4 ∧ f2.offset = 2 :=
  ⟨_, _, _, Try.underlying33, ⟨rfl, rfl⟩, ⟨rfl, rfl⟩, rfl, rfl⟩
section
variable {H : Type} {enc : TypeId × Value → H} {w : World} {base : Nat} {spare : Nat → Bool} {held : Bool}
theorem filter_cells {fuel : Nat} {cs : List Value} {x : DataW H × List MemPlace} (h : DataW.trod enc Try.prog w base spare held fuel 33 cs = some x) : ∃ a : Flt, cs = a.cs ∧ a.wf := by
  obtain ⟨f0, f1, f2, hu, ⟨t0, o0⟩, ⟨t1, o1⟩, t2, o2⟩ := fs33
  obtain ⟨xs, n, -, -, hl, hlen, hf⟩ := DataW.trod_struct hu h
  rw [cells33] at hl
  match cs, hl with
  | [c0, c1, c2], _ =>
    have h0 := hf 0 f0 rfl
    have h1 := hf 1 f1 rfl
    have h2 := hf 2 f2 rfl
    match xs, hlen with
    | [x0, x1, x2], _ =>
      simp only [t0, o0, cells23] at h0
      simp only [t1, o1, cells23] at h1
      simp only [t2, o2, cells4] at h2
      obtain ⟨m, e0, -, w0⟩ := DataW.trod_int Try.underlying23 (show DataW.trod enc Try.prog w base spare held n 23 [c0] = some x0 from h0)
      obtain ⟨i, e1, -, w1⟩ := DataW.trod_int Try.underlying23 (show DataW.trod enc Try.prog w base spare held n 23 [c1] = some x1 from h1)
      obtain ⟨b, e2, -⟩ := DataW.trod_bool Try.underlying4 (show DataW.trod enc Try.prog w base spare held n 4 [c2] = some x2 from h2)
      simp only [List.cons.injEq, and_true] at e0 e1 e2
      subst e0 e1 e2
      exact ⟨⟨m, i, b⟩, rfl, (wf_u32 w0).1, (wf_u32 w0).2, (wf_u32 w1).1, (wf_u32 w1).2⟩
/-- A row of filters that came in. -/
theorem open_filters {fuel : Nat} {cs : List Value} {x : DataW H × List MemPlace} (h : DataW.trod enc Try.prog w base spare held fuel 22 cs = some x) :
    ∃ (A : Option Addr) (n c : Nat) (l : List Flt), cs = [.slice A n c] ∧ n ≤ c ∧ c ≤ maxLen ∧ (A = none → n = 0 ∧ c = 0) ∧ l.length = n ∧ (∀ t ∈ l, t.wf) ∧ Rd w w.heap.size A (flcells l) := by
  obtain ⟨A, n, c, l, h1, h2, h3, h4, h5, h6, h7⟩ := rowN Flt.cs Flt.wf 3 (by decide) Try.underlying22 cells33 (fun m cs y hy => filter_cells hy) (fun a => rfl) h
  exact ⟨A, n, c, l, h1, h2, h3, h4, h5, h6, by rw [← flatC_fl]; exact h7⟩
/-- A row of frames that came in. -/
theorem open_frames {fuel : Nat} {cs : List Value} {x : DataW H × List MemPlace} (h : DataW.trod enc Try.prog w base spare held fuel 36 cs = some x) :
    ∃ (A : Option Addr) (n c : Nat) (l : List Fr), cs = [.slice A n c] ∧ n ≤ c ∧ c ≤ maxLen ∧ (A = none → n = 0 ∧ c = 0) ∧ l.length = n ∧ (∀ t ∈ l, t.wf) ∧ Rd w w.heap.size A (fcells l) := by
  obtain ⟨A, n, c, l, h1, h2, h3, h4, h5, h6, h7⟩ := rowN Fr.cs Fr.wf 11 (by decide) Try.underlying36 cells26 (fun m cs y hy => by
    obtain ⟨f, e, hw, -⟩ := frame_cells hy
    exact ⟨f, e, hw⟩) (fun a => rfl) h
  exact ⟨A, n, c, l, h1, h2, h3, h4, h5, h6, by rw [← flatC_fr]; exact h7⟩
end
end Go.Proofs.Ytbmkfjgodgmjnaa
