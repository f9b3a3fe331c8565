/- Commands that came in, opened. -/
import Derived.Test.YtjjifldgfihjgaaGH
import Derived.Test.YtjjifldgfihjgaaRow
namespace Go.Proofs.Ytjjifldgfihjgaa
open Go.RowKit Go.ChangeShapes Go.WideShapes Go.ChangeAt Go.Deep
set_option linter.unusedVariables false
set_option linter.unusedSimpArgs false
theorem fs33 : ∃ f0 f1 f2 f3 : Field, Try.prog.underlying 33 = some (.struct #[f0, f1, f2, f3]) ∧ (f0.type = 5 ∧ f0.offset = 0) ∧ (f1.type = 29 ∧ f1.offset = 1) ∧ (f2.type = 30 ∧ f2.offset = 6) ∧ f3.type = 31 ∧ f3.offset = 7 :=
  ⟨_, _, _, _, Try.underlying33, ⟨rfl, rfl⟩, ⟨rfl, rfl⟩, ⟨rfl, rfl⟩, rfl, rfl⟩
theorem cells33 : Try.prog.cellsOf 33 = 8 := by kernel_rfl
theorem cells29 : Try.prog.cellsOf 29 = 5 := by kernel_rfl
theorem cells5 : Try.prog.cellsOf 5 = 1 := by kernel_rfl
theorem cells30 : Try.prog.cellsOf 30 = 1 := by kernel_rfl
theorem cells31 : Try.prog.cellsOf 31 = 1 := by kernel_rfl
theorem cmd_cells {H : Type} {enc : TypeId × Value → H} {W : World} {base : Nat} {spare : Nat → Bool} {held : Bool} {fuel : Nat} {cs : List Value} {x : DataW H × List MemPlace}
    (h : DataW.trod enc Try.prog W base spare held fuel 33 cs = some x) : ∃ f : Cb, cs = f.cs ∧ RCb W f := by
  obtain ⟨f0, f1, f2, f3, hu, ⟨t0, o0⟩, ⟨t1, o1⟩, ⟨t2, o2⟩, t3, o3⟩ := fs33
  obtain ⟨xs, n, -, -, hl, hlen, hf⟩ := DataW.trod_struct hu h
  rw [cells33] at hl
  match cs, hl with
  | [c0, c1, c2, c3, c4, c5, c6, c7], _ =>
    have h0 := hf 0 f0 rfl
    have h1 := hf 1 f1 rfl
    have h2 := hf 2 f2 rfl
    have h3 := hf 3 f3 rfl
    match xs, hlen with
    | [x0, x1, x2, x3], _ =>
      simp only [t0, o0, cells5] at h0
      simp only [t1, o1, cells29] at h1
      simp only [t2, o2, cells30] at h2
      simp only [t3, o3, cells31] at h3
      obtain ⟨i, e0, -, w0⟩ := DataW.trod_int Try.underlying5 (show DataW.trod enc Try.prog W base spare held n 5 [c0] = some x0 from h0)
      obtain ⟨l, e2, -, w2⟩ := DataW.trod_int Try.underlying30 (show DataW.trod enc Try.prog W base spare held n 30 [c6] = some x2 from h2)
      obtain ⟨A, bn, bc, bs, e3, g1, g2, g3, g4, g5, g6⟩ := row_ints Try.underlying31 Try.underlying5 (by kernel_rfl) (show DataW.trod enc Try.prog W base spare held n 31 [c7] = some x3 from h3)
      obtain ⟨ys, m, -, -, -, hyl, hy⟩ := DataW.trod_array Try.underlying29 (show DataW.trod enc Try.prog W base spare held n 29 [c1, c2, c3, c4, c5] = some x1 from h1)
      rw [cells5] at hy
      match ys, hyl with
      | [y0, y1, y2, y3, y4], _ =>
        obtain ⟨b0, k0, -, v0⟩ := DataW.trod_int Try.underlying5 (show DataW.trod enc Try.prog W base spare held m 5 [c1] = some y0 from hy 0 (by omega))
        obtain ⟨b1, k1, -, v1⟩ := DataW.trod_int Try.underlying5 (show DataW.trod enc Try.prog W base spare held m 5 [c2] = some y1 from hy 1 (by omega))
        obtain ⟨b2, k2, -, v2⟩ := DataW.trod_int Try.underlying5 (show DataW.trod enc Try.prog W base spare held m 5 [c3] = some y2 from hy 2 (by omega))
        obtain ⟨b3, k3, -, v3⟩ := DataW.trod_int Try.underlying5 (show DataW.trod enc Try.prog W base spare held m 5 [c4] = some y3 from hy 3 (by omega))
        obtain ⟨b4, k4, -, v4⟩ := DataW.trod_int Try.underlying5 (show DataW.trod enc Try.prog W base spare held m 5 [c5] = some y4 from hy 4 (by omega))
        simp only [List.cons.injEq, and_true] at e0 e2 e3 k0 k1 k2 k3 k4
        subst e0 e2 e3 k0 k1 k2 k3 k4
        exact ⟨(⟨i, b0, b1, b2, b3, b4, l, A, bn, bc⟩, bs), rfl, ⟨(wf_u8 w0).1, (wf_u8 w0).2, wf_u8 v0, wf_u8 v1, wf_u8 v2, wf_u8 v3, wf_u8 v4, (wf_u32 w2).1, (wf_u32 w2).2, g1, g2⟩, g4, g5, g3⟩
theorem open_cmds {H : Type} {enc : TypeId × Value → H} {w : World} {base : Nat} {spare : Nat → Bool} {held : Bool} {fuel : Nat} {cs : List Value} {x : DataW H × List MemPlace} (h : DataW.trod enc Try.prog w base spare held fuel 22 cs = some x) :
    ∃ (A : Option Addr) (n c : Nat) (l : List Cb), cs = [.slice A n c] ∧ l.length = n ∧ n ≤ maxLen ∧ RCs w A l := by
  obtain ⟨A, n, c, l, h1, h2, h3, h4, h5, h6, h7⟩ := rowN Cb.cs (RCb w) 8 (by decide) Try.underlying22 cells33 (fun m cs y hy => cmd_cells hy) (fun _ => rfl) h
  exact ⟨A, n, c, l, h1, h5, Nat.le_trans h2 h3, ⟨h7, h6⟩⟩
end Go.Proofs.Ytjjifldgfihjgaa
