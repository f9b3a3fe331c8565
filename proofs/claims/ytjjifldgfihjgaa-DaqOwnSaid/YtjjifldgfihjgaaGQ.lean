/- Daq: lists of a call's own, written. -/
import Derived.Test.YtjjifldgfihjgaaGP
namespace Go.Proofs.Ytjjifldgfihjgaa
open Go.RowKit
set_option linter.unusedVariables false
set_option linter.unusedSimpArgs false
section
variable {w w' : World} {base c : Nat}
/-- A list's cells were written, where its tables lie is as it was. -/
theorem OL.setL {g o : Nat} {cl : List Lc} (h : OL w base (some ⟨g, o, none⟩) c cl) {i : Nat} {x x' : Lc} (hx : cl[i]? = some x) {j : Nat} {cs : List Value} (hj : j + cs.length ≤ 8) (hc : x'.cs = putL x.cs j cs) (he : x'.A = x.A ∧ x'.c = x.c ∧ x'.tabs = x.tabs)
    (ho : Own w' base 40 8 (some ⟨g, o, none⟩) cl.length c (putL (lcells cl) (i * 8 + j) cs)) (hg : w.grownBy w' (some g)) : OL w' base (some ⟨g, o, none⟩) c (cl.set i x') := by
  have key : ∀ (k : Nat) (z : Lc), (cl.set i x')[k]? = some z → ∃ y : Lc, cl[k]? = some y ∧ z.A = y.A ∧ z.c = y.c ∧ z.tabs = y.tabs := fun k z hz => by
    rcases set_get hx k hz with ⟨rfl, rfl⟩ | ⟨-, hz⟩
    · exact ⟨x, hx, he⟩
    · exact ⟨z, hz, rfl, rfl, rfl⟩
  refine ⟨?_, fun k z hz => ?_, fun k z t u k' z' t' u' h1 h2 h3 h4 => ?_⟩
  · rw [List.length_set, lcells, ← flatC_put Lc.cs 8 cl (fun _ _ => rfl) i x x' hx j cs hj hc]
    exact ho
  · obtain ⟨y, hy, e1, e2, e3⟩ := key k z hz
    rw [e1, e2, e3]
    have hT := h.tab k y hy
    exact ⟨own_kept hT.row h.row (by decide) hg, fun t u hu => own_kept (hT.ent t u hu) h.row (by decide) hg, hT.inj⟩
  · obtain ⟨y, hy, e1, e2, e3⟩ := key k z h1
    obtain ⟨y', hy', e1', e2', e3'⟩ := key k' z' h3
    rw [e3] at h2
    rw [e3'] at h4
    exact h.inj k y t u k' y' t' u' hy h2 hy' h4
theorem OL.setL2 {w1 w2 : World} {g o : Nat} {cl : List Lc} (h : OL w base (some ⟨g, o, none⟩) c cl) {i : Nat} {x x1 x2 : Lc} (hx : cl[i]? = some x) {j1 j2 : Nat} {v1 v2 : Value} (hj1 : j1 < 8) (hj2 : j2 < 8) (hc1 : x1.cs = putL x.cs j1 [v1]) (he1 : x1.A = x.A ∧ x1.c = x.c ∧ x1.tabs = x.tabs) (hc2 : x2.cs = putL x1.cs j2 [v2]) (he2 : x2.A = x1.A ∧ x2.c = x1.c ∧ x2.tabs = x1.tabs)
    (ho1 : Own w1 base 40 8 (some ⟨g, o, none⟩) cl.length c (putL (lcells cl) (i * 8 + j1) [v1])) (hg1 : w.grownBy w1 (some g)) (ho2 : Own w2 base 40 8 (some ⟨g, o, none⟩) cl.length c (putL (putL (lcells cl) (i * 8 + j1) [v1]) (i * 8 + j2) [v2])) (hg2 : w1.grownBy w2 (some g)) :
    OL w2 base (some ⟨g, o, none⟩) c (cl.set i x2) := by
  have h1 := h.setL hx (j := j1) (cs := [v1]) (by simp; omega) hc1 he1 ho1 hg1
  have hil := (List.getElem?_eq_some_iff.1 hx).1
  have e := flatC_put Lc.cs 8 cl (fun _ _ => rfl) i x x1 hx j1 [v1] (by simp; omega) hc1
  have h2 := h1.setL (x' := x2) (List.getElem?_set_self hil) (j := j2) (cs := [v2]) (by simp; omega) hc2 he2 (by rw [List.length_set]; show Own _ _ _ _ _ _ _ (putL (flatC Lc.cs (cl.set i x1)) _ _); rw [← e]; exact ho2) hg2
  rw [List.set_set] at h2
  exact h2
end
section
variable {Φ Φ' : Who} {B : Nat} {w w' : World} {q : Nat} {a : Dq} {S : Nat × Nat → Prop}
theorem DX.ext9 (h : DX Φ B w q a) (he : Ext B S Φ Φ' w w') (hS : ∀ j, j ≠ 9 → ¬ S (q, j)) : DX Φ' B w' q a := by
  obtain ⟨hok, A0, c0, cl, P, hab, h⟩ := h
  have h0 : BlC Φ (q, 0) w q 53 _ := ⟨h.blk, h.own⟩
  obtain ⟨k1, k2⟩ := h0.ext he (hS 0 (by decide))
  exact ⟨hok, A0, c0, cl, P, hab, h.b, k2, k1, h.row.ext he (hS 1 (by decide)), fun i x hx => (h.tab i x hx).ext he (hS _ (by omega)), fun i x k t hx ht => (h.ent i x k t hx ht).ext he (hS _ (by omega)), h.ptr.ext he (hS 2 (by decide))⟩
/-- Only a block of nobody's was written. -/
theorem DX.one9 (h : DX Φ B w q a) (hN : Nu Φ w) {g : Nat} (hg : w.grownBy w' (some g)) (hB : B ≤ g) (hk : Φ g = (0, 9)) : DX Φ B w' q a ∧ Nu Φ w' := by
  have he := Ext.one hN hg hB hk
  exact ⟨h.ext9 he (fun j hj e => by simp only [Prod.mk.injEq] at e; exact hj e.2), he.nu⟩
end
/-- The blocks of lists. -/
def InL (A : Option Addr) (l : List Lc) (g : Nat) : Prop := blkOf A = some g ∨ ∃ (i : Nat) (x : Lc), l[i]? = some x ∧ (blkOf x.A = some g ∨ ∃ (j : Nat) (t : Tb), x.tabs[j]? = some t ∧ blkOf t.A = some g)
/-- Lists of a call's own, nobody's. -/
structure OLC (Φ : Who) (w : World) (base : Nat) (A : Option Addr) (c : Nat) (l : List Lc) : Prop where
  o : OL w base A c l
  k : ∀ g, InL A l g → Φ g = (0, 9)
section
variable {Φ Φ' : Who} {w w' : World} {base B q c : Nat} {A : Option Addr} {l : List Lc}
theorem InL.lt (h : OL w base A c l) {g : Nat} (hg : InL A l g) : base ≤ g ∧ g < w.heap.size := by
  rcases hg with h1 | ⟨i, x, hx, h1 | ⟨j, t, ht, h1⟩⟩
  · exact h.row.lt h1
  · exact (h.tab i x hx).row.lt h1
  · exact ((h.tab i x hx).ent j t ht).lt h1
theorem OLC.new (h : OL w base A c l) (hN : ∀ g, base ≤ g → Φ g = (0, 9)) : OLC Φ w base A c l := ⟨h, fun g hg => hN g (InL.lt h hg).1⟩
theorem OLC.below (h : OLC Φ w base A c l) (hb : Below w.heap.size w w') : OLC Φ w' base A c l := ⟨h.o.below hb, h.k⟩
theorem OLC.ext (h : OLC Φ w base A c l) (he : Ext B (Sd q) Φ Φ' w w') : OLC Φ' w' base A c l := by
  have no : ∀ g, InL A l g → ¬ (B ≤ g ∧ Sd q (Φ g)) := fun g hg hx => by
    have := hx.2
    rw [h.k g hg] at this
    exact sd09 q this
  refine ⟨⟨h.o.row.ext he fun g hg => no g (.inl hg), fun i x hx => ⟨(h.o.tab i x hx).row.ext he fun g hg => no g (.inr ⟨i, x, hx, .inl hg⟩), fun j t ht => ((h.o.tab i x hx).ent j t ht).ext he fun g hg => no g (.inr ⟨i, x, hx, .inr ⟨j, t, ht, hg⟩⟩), (h.o.tab i x hx).inj⟩, h.o.inj⟩, fun g hg => ?_⟩
  rw [he.1 g (InL.lt h.o hg).2, h.k g hg]
end
theorem lsts_stop : ∀ (l : List Ls) (n : Nat), lsts n (l.map Ls.stop) = (lsts n l).map Ls.stop
  | [], n => rfl
  | x :: l, n => by
    rw [List.map_cons, lsts, lsts, List.map_cons, ← lsts_stop l]
    rfl
theorem lists_stop (l : List Ls) : listsX (l.map Ls.stop) = (listsX l).map Ls.stop := lsts_stop l 0
end Go.Proofs.Ytjjifldgfihjgaa
