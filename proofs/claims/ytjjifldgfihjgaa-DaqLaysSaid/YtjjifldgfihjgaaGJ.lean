/- Daq: commands at hand while a Daq is worked on. -/
import Derived.Test.YtjjifldgfihjgaaGH
namespace Go.Proofs.Ytjjifldgfihjgaa
open Go.RowKit
set_option linter.unusedVariables false
set_option linter.unusedSimpArgs false
/-- A command whose bytes stand below B. -/
structure CbIn (w : World) (B : Nat) (x : Cb) : Prop where
  wf : x.1.wf
  l : x.2.length = x.1.bn
  n : x.1.bn ≤ 10
  r : Rd w B x.1.bA (u8s x.2)
theorem CbIn.below {w w' : World} {B : Nat} {x : Cb} (h : CbIn w B x) (hb : Below B w w') : CbIn w' B x := ⟨h.wf, h.l, h.n, h.r.below hb⟩
theorem few_in {w : World} {A : Option Addr} {l : List Cb} (h : RCs w A l) : ∀ x ∈ fewX l, CbIn w w.heap.size x := fun x hx => by
  unfold fewX at hx
  obtain ⟨y, hy, rfl⟩ := List.mem_map.1 hx
  have k := (h.all y (List.mem_of_mem_take hy)).cut
  exact ⟨k.wf, k.l, Nat.min_le_right _ _, k.r⟩
/-- The commands at hand; w0: the world at the law's start. -/
structure CW (w0 : World) (Φ : Who) (A : Option Addr) (c : Nat) (l : List Cb) (w : World) : Prop where
  row : OwC Φ (0, 9) w w0.heap.size 33 8 A l.length c (ccells l)
  cmds : ∀ x ∈ l, CbIn w w0.heap.size x
  nu : Nu Φ w
  bel : Below w0.heap.size w0 w
section
variable {w0 w w' : World} {Φ Φ' : Who} {A : Option Addr} {c : Nat} {l : List Cb} {q : Nat} {a : Dq} {S : Nat × Nat → Prop}
theorem CW.below (h : CW w0 Φ A c l w) (hb : Below w.heap.size w w') : CW w0 Φ A c l w' :=
  ⟨h.row.below hb, fun x hx => (h.cmds x hx).below (hb.mono h.bel.size), h.nu.below hb, h.bel.trans (hb.mono h.bel.size)⟩
theorem CW.ext (h : CW w0 Φ A c l w) (he : Ext w0.heap.size S Φ Φ' w w') (hS : ¬ S (0, 9)) : CW w0 Φ' A c l w' :=
  ⟨h.row.ext he hS, fun x hx => (h.cmds x hx).below (he.below h.bel.size), he.nu, h.bel.trans (he.below h.bel.size)⟩
theorem CW.cell (h : CW w0 Φ A c l w) {k : Nat} {x : Cb} (hx : l[k]? = some x) : ∃ b o, A = some ⟨b, o, none⟩ ∧ ∀ j u, (Cb.cs x)[j]? = some u → w.cell? ⟨b, o + k * 8 + j, none⟩ = some u := by
  have hn : 0 < l.length := by have := (List.getElem?_eq_some_iff.1 hx).1; omega
  obtain ⟨b, o, rfl⟩ := h.row.1.at_ hn
  refine ⟨b, o, rfl, fun j u hu => ?_⟩
  have := h.row.1.cells _ u (ccells_at hx hu)
  rw [← Nat.add_assoc] at this
  exact this
theorem CW.nil (hN : Nu Φ w) (hb : Below w0.heap.size w0 w) : CW w0 Φ none 0 [] w := ⟨OwC.nil _ _ _ _ _ _, (fun x hx => by cases hx), hN, hb⟩
theorem sd09 (q : Nat) : ¬ Sd q (0, 9) := Sd.no q 0 (by decide) (by decide)
/-- What a command answers and leaves, and the commands at hand then. -/
def DoP (w0 : World) (Φ : Who) (A : Option Addr) (c : Nat) (l : List Cb) (q : Nat) (w : World) (r : Dq × List Int × Int) (e : Ending) (w' : World) : Prop :=
  ∃ V d Φ', e = .returned (.tuple #[.slice V r.2.1.length d, .int .i64 r.2.2]) ∧ Own w' w.heap.size 5 1 V r.2.1.length d (u8s r.2.1) ∧ DX Φ' w0.heap.size w' q r.1 ∧ CW w0 Φ' A c l w' ∧ Ext w0.heap.size (Sd q) Φ Φ' w w'
theorem do_in (hX : DX Φ w0.heap.size w q a) (hC : CW w0 Φ A c l w) {x : Cb} (hx : CbIn w w0.heap.size x) : Calls Try.prog 12 #[.pointer (some ⟨q, 0, none⟩), x.1.val] w (DoP w0 Φ A c l q w (doX a x.1)) := by
  refine (do_any hX hC.nu x.1 hx.wf x.2 hx.l (by have := hx.n; omega) (hx.r.more hC.bel.size)).mono ?_
  rintro e w' ⟨V, d, Φ', h1, h2, h3, h4⟩
  exact ⟨V, d, Φ', h1, h2, h3, hC.ext h4 (sd09 q), h4⟩
theorem do_cw (hX : DX Φ w0.heap.size w q a) (hC : CW w0 Φ A c l w) {x : Cb} (hx : x ∈ l) : Calls Try.prog 12 #[.pointer (some ⟨q, 0, none⟩), x.1.val] w (DoP w0 Φ A c l q w (doX a x.1)) := do_in hX hC (hC.cmds x hx)
/-- A command of small numbers alone. -/
def cm (k a0 a1 a2 a3 a4 : Int) (w : Int) : Cm := ⟨k, a0, a1, a2, a3, a4, w, none, 0, 0⟩
theorem cm_in {k a0 a1 a2 a3 a4 v : Int} (w : World) (B : Nat) (h : (0 ≤ k ∧ k < 256) ∧ (0 ≤ a0 ∧ a0 < 256) ∧ (0 ≤ a1 ∧ a1 < 256) ∧ (0 ≤ a2 ∧ a2 < 256) ∧ (0 ≤ a3 ∧ a3 < 256) ∧ (0 ≤ a4 ∧ a4 < 256) ∧ 0 ≤ v ∧ v < 4294967296) : CbIn w B (cm k a0 a1 a2 a3 a4 v, []) :=
  ⟨⟨h.1.1, h.1.2, h.2.1, h.2.2.1, h.2.2.2.1, h.2.2.2.2.1, h.2.2.2.2.2.1, h.2.2.2.2.2.2.1, h.2.2.2.2.2.2.2, Nat.le_refl _, Nat.zero_le _⟩, rfl, Nat.zero_le _, Rd.nil⟩
end
/-- The five commands of the document's example. -/
def sh5 : List Cb := [(cm 19 1 0 0 0 0 0, []), (cm 20 0 1 0 0 0 0, []), (cm 21 0 0 1 0 0 0, []), (cm 22 0 0 0 0 0 0, []), (cm 23 4 0 0 0 0 8, [])]
def shA : Nat → Dq
  | 0 => ⟨1, 0, [], none⟩
  | k + 1 => match sh5[k]? with
    | some x => (doX (shA k) x.1).1
    | none => shA k
theorem sh5_in (w : World) (B : Nat) : ∀ x ∈ sh5, CbIn w B x := by
  intro x hx
  simp only [sh5, List.mem_cons, List.not_mem_nil, or_false] at hx
  rcases hx with rfl | rfl | rfl | rfl | rfl <;> exact cm_in w B (by decide)
theorem sh5_ok {k : Nat} {x : Cb} (h : sh5[k]? = some x) : doX (shA k) x.1 = (shA (k + 1), [], 0) := by
  have hk : k < 5 := (List.getElem?_eq_some_iff.1 h).1
  rcases (by omega : k = 0 ∨ k = 1 ∨ k = 2 ∨ k = 3 ∨ k = 4) with rfl | rfl | rfl | rfl | rfl
  all_goals (simp only [sh5, List.getElem?_cons_zero, List.getElem?_cons_succ, Option.some.injEq] at h; subst h; rfl)
theorem sh_last : (doX (shA 5) (cm 25 0 1 0 0 0 0)).2 = ([0], 0) ∧ runsX (doX (shA 5) (cm 25 0 1 0 0 0 0)).1.ls = true := ⟨rfl, rfl⟩
end Go.Proofs.Ytjjifldgfihjgaa
