/- Acts of a box: a row of them that came in; few. -/
import Derived.Test.YtbmkfjgodgmjnaaC3
import Derived.Test.YtbmkfjgodgmjnaaCP
namespace Go.Proofs.Ytbmkfjgodgmjnaa
open Go.RowKit Go.ChangeShapes Go.WideShapes
set_option linter.unusedVariables false
set_option linter.unusedSimpArgs false
/-- An act on a box. -/
structure Ac where
  kind : Int
  f : Fr
abbrev Ac.cs (a : Ac) : List Value := .int .u8 a.kind :: a.f.cs
abbrev cellsA (l : List Ac) : List Value := flatC Ac.cs l
structure Ac.wf (a : Ac) : Prop where
  k0 : 0 ≤ a.kind
  k1 : a.kind < 256
  fw : a.f.wf
theorem cells52 : Try.prog.cellsOf 52 = 12 := by kernel_rfl
theorem fs52 : ∃ f0 f1 : Field, Try.prog.underlying 52 = some (.struct #[f0, f1]) ∧ (f0.type = 5 ∧ f0.offset = 0) ∧ f1.type = 26 ∧ f1.offset = 1 :=
  ⟨_, _, Try.underlying52, ⟨rfl, rfl⟩, rfl, rfl⟩
section
variable {H : Type} {enc : TypeId × Value → H} {w : World} {base : Nat} {spare : Nat → Bool} {held : Bool}
theorem act_cells {fuel : Nat} {cs : List Value} {x : DataW H × List MemPlace} (h : DataW.trod enc Try.prog w base spare held fuel 52 cs = some x) : ∃ a : Ac, cs = a.cs ∧ a.wf := by
  obtain ⟨f0, f1, hu, ⟨t0, o0⟩, t1, o1⟩ := fs52
  obtain ⟨xs, n, -, -, hl, hlen, hf⟩ := DataW.trod_struct hu h
  rw [cells52] at hl
  cases cs with
  | nil => simp at hl
  | cons c0 cs =>
    have h0 := hf 0 f0 rfl
    have h1 := hf 1 f1 rfl
    match xs, hlen with
    | [x0, x1], _ =>
      simp only [t0, o0, cells5] at h0
      simp only [t1, o1, cells26] at h1
      obtain ⟨k, e0, -, w0⟩ := DataW.trod_int Try.underlying5 (show DataW.trod enc Try.prog w base spare held n 5 [c0] = some x0 from h0)
      have hcs : ((c0 :: cs).drop 1).take 11 = cs := by
        rw [List.drop_succ_cons, List.drop_zero]
        exact List.take_of_length_le (by simp at hl; omega)
      obtain ⟨f, e1, hw, -⟩ := frame_cells (cs := cs) (x := x1) (by rw [← hcs]; exact h1)
      simp only [List.cons.injEq, and_true] at e0
      subst e0
      refine ⟨⟨k, f⟩, ?_, (wf_u8 w0).1, (wf_u8 w0).2, hw⟩
      rw [e1]
      rfl
/-- A row of acts that came in. -/
theorem open_acts {fuel : Nat} {cs : List Value} {x : DataW H × List MemPlace} (h : DataW.trod enc Try.prog w base spare held fuel 45 cs = some x) :
    ∃ (A : Option Addr) (n c : Nat) (l : List Ac), cs = [.slice A n c] ∧ n ≤ c ∧ c ≤ maxLen ∧ (A = none → n = 0 ∧ c = 0) ∧ l.length = n ∧ (∀ t ∈ l, t.wf) ∧ Rd w w.heap.size A (cellsA l) :=
  rowN Ac.cs Ac.wf 12 (by decide) Try.underlying45 cells52 (fun m cs y hy => act_cells hy) (fun a => rfl) h
end
theorem few_any (A : Option Addr) (n c : Nat) (w : World) (hn : n ≤ c) (hl : n ≤ maxLen) (hA : A = none → n = 0 ∧ c = 0) :
    Calls Try.prog 27 #[.slice A n c] w fun e w' => e = .returned (.slice A (min n 100) c) ∧ w = w' := by
  unfold maxLen at hl
  by_cases h : n ≤ 100
  · have h' : (n : Int) ≤ 100 := by omega
    go_enter Try.func27, Try.ntmps27
    go_wp2
    go_ret
    exact ⟨by rw [Nat.min_eq_left h]; rfl, rfl⟩
  · have h' : 100 ≤ (n : Int) := by omega
    have h2 : 100 ≤ (c : Int) := by omega
    have h3 : (100 : Int) < n := by omega
    rcases A with _ | A
    · obtain ⟨h4, -⟩ := hA rfl
      omega
    · go_enter Try.func27, Try.ntmps27
      go_wp2
      go_ret
      exact ⟨by rw [Nat.min_eq_right (by omega)]; rfl, rfl⟩
end Go.Proofs.Ytbmkfjgodgmjnaa
