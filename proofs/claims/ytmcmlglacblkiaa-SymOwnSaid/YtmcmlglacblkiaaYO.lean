/- A name that came in, opened. -/
import Derived.Test.YtmcmlglacblkiaaOpen
import Derived.Test.YtmcmlglacblkiaaY4
namespace Go.Proofs.Ytmcmlglacblkiaa
open Go.RowKit Go.ChangeShapes Go.WideShapes Go.ChangeAt
set_option linter.unusedVariables false
set_option linter.unusedSimpArgs false
theorem fs24 : ∃ f0 f1 f2 f3 f4 f5 f6 f7 : Field, Try.prog.underlying 24 = some (.struct #[f0, f1, f2, f3, f4, f5, f6, f7]) ∧ (f0.type = 9 ∧ f0.offset = 0) ∧ (f1.type = 5 ∧ f1.offset = 1) ∧ (f2.type = 22 ∧ f2.offset = 2) ∧ (f3.type = 3 ∧ f3.offset = 3) ∧ (f4.type = 4 ∧ f4.offset = 4) ∧ (f5.type = 4 ∧ f5.offset = 5) ∧ (f6.type = 21 ∧ f6.offset = 6) ∧ (f7.type = 21 ∧ f7.offset = 7) :=
  ⟨_, _, _, _, _, _, _, _, Try.underlying24, ⟨rfl, rfl⟩, ⟨rfl, rfl⟩, ⟨rfl, rfl⟩, ⟨rfl, rfl⟩, ⟨rfl, rfl⟩, ⟨rfl, rfl⟩, ⟨rfl, rfl⟩, rfl, rfl⟩
theorem cellsOf24 : Try.prog.cellsOf 24 = 8 := by kernel_rfl
theorem cellsOf9 : Try.prog.cellsOf 9 = 1 := by kernel_rfl
theorem cellsOf5 : Try.prog.cellsOf 5 = 1 := by kernel_rfl
theorem cellsOf22 : Try.prog.cellsOf 22 = 1 := by kernel_rfl
theorem cellsOf3 : Try.prog.cellsOf 3 = 1 := by kernel_rfl
theorem cellsOf4 : Try.prog.cellsOf 4 = 1 := by kernel_rfl
theorem cellsOf21 : Try.prog.cellsOf 21 = 1 := by kernel_rfl
theorem sym_cells {H : Type} {enc : TypeId × Value → H} {W : World} {base : Nat} {spare : Nat → Bool} {held : Bool} {fuel : Nat} {cs : List Value} {x : DataW H × List MemPlace}
    (h : DataW.trod enc Try.prog W base spare held fuel 24 cs = some x) : ∃ s : Sy, cs = s.cs.toList ∧ s.wf := by
  obtain ⟨f0, f1, f2, f3, f4, f5, f6, f7, hu, ⟨t0, o0⟩, ⟨t1, o1⟩, ⟨t2, o2⟩, ⟨t3, o3⟩, ⟨t4, o4⟩, ⟨t5, o5⟩, ⟨t6, o6⟩, ⟨t7, o7⟩⟩ := fs24
  obtain ⟨xs, n, -, -, hl, hlen, hf⟩ := DataW.trod_struct hu h
  rw [cellsOf24] at hl
  match cs, hl with
  | [c0, c1, c2, c3, c4, c5, c6, c7], _ =>
    have h0 := hf 0 f0 rfl
    have h1 := hf 1 f1 rfl
    have h2 := hf 2 f2 rfl
    have h3 := hf 3 f3 rfl
    have h4 := hf 4 f4 rfl
    have h5 := hf 5 f5 rfl
    have h6 := hf 6 f6 rfl
    have h7 := hf 7 f7 rfl
    match xs, hlen with
    | [x0, x1, x2, x3, x4, x5, x6, x7], _ =>
      simp only [t0, o0, cellsOf9] at h0
      simp only [t1, o1, cellsOf5] at h1
      simp only [t2, o2, cellsOf22] at h2
      simp only [t3, o3, cellsOf3] at h3
      simp only [t4, o4, cellsOf4] at h4
      simp only [t5, o5, cellsOf4] at h5
      simp only [t6, o6, cellsOf21] at h6
      simp only [t7, o7, cellsOf21] at h7
      obtain ⟨a0, e0, -, w0⟩ := DataW.trod_string Try.underlying9 (show DataW.trod enc Try.prog W base spare held n 9 [c0] = some x0 from h0)
      obtain ⟨a1, e1, -, w1⟩ := DataW.trod_int Try.underlying5 (show DataW.trod enc Try.prog W base spare held n 5 [c1] = some x1 from h1)
      obtain ⟨a2, e2, -, w2⟩ := DataW.trod_int Try.underlying22 (show DataW.trod enc Try.prog W base spare held n 22 [c2] = some x2 from h2)
      obtain ⟨a3, e3, -, w3⟩ := DataW.trod_int Try.underlying3 (show DataW.trod enc Try.prog W base spare held n 3 [c3] = some x3 from h3)
      obtain ⟨a4, e4, -⟩ := DataW.trod_bool Try.underlying4 (show DataW.trod enc Try.prog W base spare held n 4 [c4] = some x4 from h4)
      obtain ⟨a5, e5, -⟩ := DataW.trod_bool Try.underlying4 (show DataW.trod enc Try.prog W base spare held n 4 [c5] = some x5 from h5)
      obtain ⟨a6, e6, -, w6⟩ := DataW.trod_int Try.underlying21 (show DataW.trod enc Try.prog W base spare held n 21 [c6] = some x6 from h6)
      obtain ⟨a7, e7, -, w7⟩ := DataW.trod_int Try.underlying21 (show DataW.trod enc Try.prog W base spare held n 21 [c7] = some x7 from h7)
      simp only [List.cons.injEq, and_true] at e0 e1 e2 e3 e4 e5 e6 e7
      subst e0 e1 e2 e3 e4 e5 e6 e7
      have hm : maxLen ≤ 9223372036854775807 := by decide
      exact ⟨⟨a0, a1, a2, a3, a4, a5, a6, a7⟩, rfl, ⟨Nat.le_trans w0 hm, (wf_i32 w6).1, (wf_i32 w6).2, (wf_i32 w7).1, (wf_i32 w7).2, (wf_i64' w3).1, (wf_i64' w3).2⟩⟩
theorem open_sym {H : Type} {enc : TypeId × Value → H} {W : World} {base b0 : Nat} {r : Reach} {spare : Nat → Bool} {held : Bool} {v : Value} {d : DataW H} {p : List MemPlace}
    (hv : Value.okWide Try.prog W r b0 24 v) (h : DataW.Trod enc Try.prog W base spare held 24 v d p) : ∃ s : Sy, v = s.val ∧ s.wf := by
  obtain ⟨f0, f1, f2, f3, f4, f5, f6, f7, hu, -⟩ := fs24
  obtain ⟨cs, rfl, -⟩ := okWide_struct hu hv
  obtain ⟨fuel, hf⟩ := h
  obtain ⟨s, h1, h2⟩ := sym_cells (cs := cs.toList) hf
  refine ⟨s, ?_, h2⟩
  have : cs = s.cs := by
    apply Array.toList_inj.1
    exact h1
  rw [this]
end Go.Proofs.Ytmcmlglacblkiaa
