/- Daq: what the laws that stop and free need. -/
import Derived.Test.YtjjifldgfihjgaaGN
namespace Go.Proofs.Ytjjifldgfihjgaa
open Go.RowKit
set_option linter.unusedVariables false
set_option linter.unusedSimpArgs false
theorem few_cw {w w2 w3 : World} {Φ : Who} {A A3 : Option Addr} {l : List Cb} {c3 : Nat} (hr : RCs w A l) (hN : Nu Φ w2) (hb2 : Below w.heap.size w w2) (hb3 : Below w2.heap.size w2 w3) (ho3 : Own w3 w2.heap.size 33 8 A3 (fewX l).length c3 (ccells (fewX l))) : CW w Φ A3 c3 (fewX l) w3 :=
  ⟨OwC.fresh (ho3.more hb2.size) hN (fun g hg => (ho3.lt hg).1), fun x hx => (few_in hr x hx).below (hb2.trans (hb3.mono hb2.size)), hN.below hb3, hb2.trans (hb3.mono hb2.size)⟩
theorem stop_cw {w0 w : World} {Φ : Who} {A : Option Addr} {c : Nat} {l : List Cb} {q : Nat} {a : Dq} (hX : DX Φ w0.heap.size w q a) (hC : CW w0 Φ A c l w) : Calls Try.prog 16 #[.pointer (some ⟨q, 0, none⟩)] w fun e w' => e = .returned (.tuple #[]) ∧ ∃ Φ', DX Φ' w0.heap.size w' q (stopX a) ∧ CW w0 Φ' A c l w' ∧ Ext w0.heap.size (Sd q) Φ Φ' w w' := by
  refine (stop_any hX hC.nu).mono ?_
  rintro e w' ⟨h1, Φ', h2, h3⟩
  exact ⟨h1, Φ', h2, hC.ext h3 (sd09 q), h3⟩
theorem runs_stop (a : Dq) : runsX (stopX a).ls = false := by
  unfold runsX stopX
  rw [List.any_map, List.any_eq_false]
  intro x hx
  simp [Ls.stop]
theorem do_free {a : Dq} (h : runsX a.ls = false) : doX a (cm 18 0 0 0 0 0 0) = (freeX a, [], 0) := by
  unfold doX
  rw [if_neg (by decide), if_neg (by decide), if_neg (by rw [h]; simp)]
  rfl
theorem do_all0 (a : Dq) : doX a (cm 26 0 0 0 0 0 0) = (stopX a, [], 0) := by
  unfold doX
  rw [if_neg (by decide), if_neg (by decide), if_neg (by simp [cm])]
  show with_ (allX a (cm 26 0 0 0 0 0 0)) = _
  unfold allX
  rw [if_neg (by decide)]
  have e : allS (cm 26 0 0 0 0 0 0).a0 = Ls.stop := by
    funext x
    unfold allS Ls.stop
    simp [cm]
  rw [e]
  rfl
/-- A row of bytes of the call's own may be nobody's. -/
theorem DX.paint5 {Φ : Who} {B q : Nat} {w : World} {a : Dq} (h : DX Φ B w q a) {base : Nat} {V : Option Addr} {n c : Nat} {xs : List Value} (hV : Own w base 5 1 V n c xs) (k : Nat × Nat) : DX (paint Φ V k) B w q a := by
  obtain ⟨hok, A0, c0, cl, P, hab, hX⟩ := h
  have nq : ∀ {t : TypeId} {g : Nat} {cs : Array Value}, Blk w g t cs → (5 : TypeId) ≠ t → blkOf V ≠ some g := fun hB hne e => own_blk_ne hV hB hne e.symm
  have no : ∀ {b2 : Nat} {e2 : TypeId} {s2 n2 c2 : Nat} {A2 : Option Addr} {ys : List Value}, Own w b2 e2 s2 A2 n2 c2 ys → (5 : TypeId) ≠ e2 → ∀ g, blkOf V = some g → blkOf A2 ≠ some g := fun ho hne g hg e => by
    rcases own_own_ne hV ho hne with h1 | h1
    · rw [h1] at hg; cases hg
    · exact h1 (hg.trans e.symm)
  refine ⟨hok, A0, c0, cl, P, hab, hX.b, (paint_ne (nq hX.blk (by decide))).trans hX.own, hX.blk, hX.row.paint (no hX.row.1 (by decide)), fun i x hx => (hX.tab i x hx).paint (no (hX.tab i x hx).1 (by decide)), fun i x k t hx ht => (hX.ent i x k t hx ht).paint (no (hX.ent i x k t hx ht).1 (by decide)), ?_⟩
  have hp := hX.ptr
  cases hpt : a.ptr with
  | none => rw [hpt] at hp; exact hp
  | some p =>
    rw [hpt] at hp
    obtain ⟨g, h1, h2, h3⟩ := hp
    exact ⟨g, h1, h2, h3.paint (nq h3.1 (by decide))⟩
theorem CW.paint5 {w0 w : World} {Φ : Who} {A : Option Addr} {c : Nat} {l : List Cb} (h : CW w0 Φ A c l w) {base : Nat} {V : Option Addr} {n d : Nat} {xs : List Value} (hV : Own w base 5 1 V n d xs) (k : Nat × Nat) : CW w0 (paint Φ V k) A c l w := by
  refine ⟨h.row.paint fun g hg e => ?_, h.cmds, fun g hg => ?_, h.bel⟩
  · rcases own_own_ne hV h.row.1 (by decide) with h1 | h1
    · rw [h1] at hg; cases hg
    · exact h1 (hg.trans e.symm)
  · rw [paint_ne (fun e => by have := (hV.lt e).2; omega), h.nu g hg]
/-- Two Daqs, a command on the first: its answer is nobody's. -/
theorem do_two {w0 w : World} {Φ : Who} {A : Option Addr} {c : Nat} {l : List Cb} {q r : Nat} {a b : Dq} (hX : DX Φ w0.heap.size w q a) (hY : DX Φ w0.heap.size w r b) (hqr : r ≠ q) (hC : CW w0 Φ A c l w) {x : Cb} (hx : x ∈ l) : Calls Try.prog 12 #[.pointer (some ⟨q, 0, none⟩), x.1.val] w fun e w' =>
    ∃ V d Φ', e = .returned (.tuple #[.slice V (doX a x.1).2.1.length d, .int .i64 (doX a x.1).2.2]) ∧ OwC Φ' (0, 9) w' w.heap.size 5 1 V (doX a x.1).2.1.length d (u8s (doX a x.1).2.1) ∧ DX Φ' w0.heap.size w' q (doX a x.1).1 ∧ DX Φ' w0.heap.size w' r b ∧ CW w0 Φ' A c l w' ∧ Ext w0.heap.size (Sd q) Φ Φ' w w' := by
  refine (do_cw hX hC hx).mono ?_
  rintro e w' ⟨V, d, Φ', h1, h2, h3, h4, h5⟩
  have hY' := hY.ext h5 (fun j => Sd.ne hqr)
  refine ⟨V, d, _, h1, OwC.paint_self h2, h3.paint5 h2 (0, 9), hY'.paint5 h2 (0, 9), h4.paint5 h2 (0, 9), h5.paint fun g hg => ?_⟩
  have := h2.lt hg
  exact ⟨this.2, fun hlt => by omega⟩
end Go.Proofs.Ytjjifldgfihjgaa
