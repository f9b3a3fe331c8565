/- A frame that came in, opened. -/
import Derived.Test.YtbmkfjgodgmjnaaOpen
import Derived.Test.YtbmkfjgodgmjnaaF0
namespace Go.Proofs.Ytbmkfjgodgmjnaa
open Go.RowKit Go.ChangeShapes Go.WideShapes Go.ChangeAt
set_option linter.unusedVariables false
set_option linter.unusedSimpArgs false

theorem fs26 : ∃ f0 f1 f2 f3 : Field, Try.prog.underlying 26 = some (.struct #[f0, f1, f2, f3]) ∧ (f0.type = 23 ∧ f0.offset = 0) ∧ (f1.type = 4 ∧ f1.offset = 1) ∧ (f2.type = 3 ∧ f2.offset = 2) ∧ f3.type = 24 ∧ f3.offset = 3 :=
  ⟨_, _, _, _, Try.underlying26, ⟨rfl, rfl⟩, ⟨rfl, rfl⟩, ⟨rfl, rfl⟩, rfl, rfl⟩
theorem cells26 : Try.prog.cellsOf 26 = 11 := by kernel_rfl
theorem cells24 : Try.prog.cellsOf 24 = 8 := by kernel_rfl
theorem cells5 : Try.prog.cellsOf 5 = 1 := by kernel_rfl
theorem cells23 : Try.prog.cellsOf 23 = 1 := by kernel_rfl
theorem cells4 : Try.prog.cellsOf 4 = 1 := by kernel_rfl
theorem cells3 : Try.prog.cellsOf 3 = 1 := by kernel_rfl

theorem frame_cells {H : Type} {enc : TypeId × Value → H} {W : World} {base : Nat} {spare : Nat → Bool} {held : Bool} {fuel : Nat} {cs : List Value} {x : DataW H × List MemPlace}
    (h : DataW.trod enc Try.prog W base spare held fuel 26 cs = some x) : ∃ f : Fr, cs = f.val.cells.toList ∧ f.wf ∧ f.bs.length = 8 := by
  obtain ⟨f0, f1, f2, f3, hu, ⟨t0, o0⟩, ⟨t1, o1⟩, ⟨t2, o2⟩, t3, o3⟩ := fs26
  obtain ⟨xs, n, -, -, hl, hlen, hf⟩ := DataW.trod_struct hu h
  rw [cells26] at hl
  match cs, hl with
  | [c0, c1, c2, c3, c4, c5, c6, c7, c8, c9, c10], _ =>
    have h0 := hf 0 f0 rfl
    have h1 := hf 1 f1 rfl
    have h2 := hf 2 f2 rfl
    have h3 := hf 3 f3 rfl
    match xs, hlen with
    | [x0, x1, x2, x3], _ =>
      simp only [t0, o0, cells23] at h0
      simp only [t1, o1, cells4] at h1
      simp only [t2, o2, cells3] at h2
      simp only [t3, o3, cells24] at h3
      obtain ⟨i, e0, -, w0⟩ := DataW.trod_int Try.underlying23 (show DataW.trod enc Try.prog W base spare held n 23 [c0] = some x0 from h0)
      obtain ⟨b, e1, -⟩ := DataW.trod_bool Try.underlying4 (show DataW.trod enc Try.prog W base spare held n 4 [c1] = some x1 from h1)
      obtain ⟨l, e2, -, w2⟩ := DataW.trod_int Try.underlying3 (show DataW.trod enc Try.prog W base spare held n 3 [c2] = some x2 from h2)
      obtain ⟨ys, m, -, -, -, hyl, hy⟩ := DataW.trod_array Try.underlying24 (show DataW.trod enc Try.prog W base spare held n 24 [c3, c4, c5, c6, c7, c8, c9, c10] = some x3 from h3)
      rw [cells5] at hy
      match ys, hyl with
      | [y0, y1, y2, y3, y4, y5, y6, y7], _ =>
        obtain ⟨b0, g0, -, v0⟩ := DataW.trod_int Try.underlying5 (show DataW.trod enc Try.prog W base spare held m 5 [c3] = some y0 from hy 0 (by omega))
        obtain ⟨b1, g1, -, v1⟩ := DataW.trod_int Try.underlying5 (show DataW.trod enc Try.prog W base spare held m 5 [c4] = some y1 from hy 1 (by omega))
        obtain ⟨b2, g2, -, v2⟩ := DataW.trod_int Try.underlying5 (show DataW.trod enc Try.prog W base spare held m 5 [c5] = some y2 from hy 2 (by omega))
        obtain ⟨b3, g3, -, v3⟩ := DataW.trod_int Try.underlying5 (show DataW.trod enc Try.prog W base spare held m 5 [c6] = some y3 from hy 3 (by omega))
        obtain ⟨b4, g4, -, v4⟩ := DataW.trod_int Try.underlying5 (show DataW.trod enc Try.prog W base spare held m 5 [c7] = some y4 from hy 4 (by omega))
        obtain ⟨b5, g5, -, v5⟩ := DataW.trod_int Try.underlying5 (show DataW.trod enc Try.prog W base spare held m 5 [c8] = some y5 from hy 5 (by omega))
        obtain ⟨b6, g6, -, v6⟩ := DataW.trod_int Try.underlying5 (show DataW.trod enc Try.prog W base spare held m 5 [c9] = some y6 from hy 6 (by omega))
        obtain ⟨b7, g7, -, v7⟩ := DataW.trod_int Try.underlying5 (show DataW.trod enc Try.prog W base spare held m 5 [c10] = some y7 from hy 7 (by omega))
        simp only [List.cons.injEq, and_true] at e0 e1 e2 g0 g1 g2 g3 g4 g5 g6 g7
        subst e0 e1 e2 g0 g1 g2 g3 g4 g5 g6 g7
        refine ⟨⟨i, b, l, [b0, b1, b2, b3, b4, b5, b6, b7]⟩, rfl, ⟨(wf_u32 w0).1, (wf_u32 w0).2, (wf_i64 w2).1, (wf_i64 w2).2, fun j => ?_⟩, rfl⟩
        have k0 := wf_u8 v0; have k1 := wf_u8 v1; have k2 := wf_u8 v2; have k3 := wf_u8 v3
        have k4 := wf_u8 v4; have k5 := wf_u8 v5; have k6 := wf_u8 v6; have k7 := wf_u8 v7
        match j with
        | 0 => exact k0
        | 1 => exact k1
        | 2 => exact k2
        | 3 => exact k3
        | 4 => exact k4
        | 5 => exact k5
        | 6 => exact k6
        | 7 => exact k7
        | j + 8 => simp [Fr.g]

theorem open_frame {H : Type} {enc : TypeId × Value → H} {W : World} {base b0 : Nat} {r : Reach} {spare : Nat → Bool} {held : Bool} {v : Value} {d : DataW H} {p : List MemPlace}
    (hv : Value.okWide Try.prog W r b0 26 v) (h : DataW.Trod enc Try.prog W base spare held 26 v d p) : ∃ f : Fr, v = f.val ∧ f.wf ∧ f.bs.length = 8 := by
  obtain ⟨f0, f1, f2, f3, hu, -⟩ := fs26
  obtain ⟨cs, rfl, -⟩ := okWide_struct hu hv
  obtain ⟨fuel, hf⟩ := h
  obtain ⟨f, h1, h2, h3⟩ := frame_cells (cs := cs.toList) hf
  refine ⟨f, ?_, h2, h3⟩
  have : cs = f.val.cells := by
    apply Array.toList_inj.1
    exact h1
  rw [this]
  rfl
end Go.Proofs.Ytbmkfjgodgmjnaa
