/- Daq: lists of a caller's own, written while others stay. -/
import Derived.Test.YtjjifldgfihjgaaGQ
namespace Go.Proofs.Ytjjifldgfihjgaa
open Go.RowKit
set_option linter.unusedVariables false
set_option linter.unusedSimpArgs false
def setTab (x : Lc) (j : Nat) (t' : Tb) : Lc := { x with tabs := x.tabs.set j t' }
theorem setTab_cs (x : Lc) (j : Nat) (t' : Tb) : (setTab x j t').cs = x.cs := by
  show [Value.int .i64 x.first, .slice x.A (x.tabs.set j t').length x.c, .bool x.stim, .int .u8 x.ev, .int .u8 x.pre, .int .u8 x.pri, .bool x.on, .bool x.ch] = _
  rw [List.length_set]
section
variable {w w' : World} {base c : Nat} {A : Option Addr} {cl : List Lc} {i j : Nat} {x : Lc} {t t' : Tb}
theorem setTab_get (hx : cl[i]? = some x) (ht : x.tabs[j]? = some t) (he : t'.A = t.A ∧ t'.c = t.c ∧ t'.es.length = t.es.length) {k : Nat} {z : Lc} (hz : (cl.set i (setTab x j t'))[k]? = some z) :
    ∃ y : Lc, cl[k]? = some y ∧ z.A = y.A ∧ z.c = y.c ∧ z.tabs.length = y.tabs.length ∧ tcells z.tabs = tcells y.tabs ∧ ∀ (m : Nat) (u : Tb), z.tabs[m]? = some u → ∃ u0 : Tb, y.tabs[m]? = some u0 ∧ u.A = u0.A ∧ ((k = i ∧ m = j ∧ u = t') ∨ ((k ≠ i ∨ m ≠ j) ∧ u = u0)) := by
  have htc : tcells (x.tabs.set j t') = tcells x.tabs := flatC_same Tb.cs _ j t t' ht (by show [Value.slice t'.A t'.es.length t'.c] = _; rw [he.1, he.2.1, he.2.2])
  rcases set_get hx k hz with ⟨rfl, rfl⟩ | ⟨hne, hz⟩
  · refine ⟨x, hx, rfl, rfl, List.length_set, htc, fun m u hu => ?_⟩
    rcases set_get ht m hu with ⟨rfl, rfl⟩ | ⟨hm, hu⟩
    · exact ⟨t, ht, he.1, .inl ⟨rfl, rfl, rfl⟩⟩
    · exact ⟨u, hu, rfl, .inr ⟨.inr hm, rfl⟩⟩
  · exact ⟨z, hz, rfl, rfl, rfl, rfl, fun m u hu => ⟨u, hu, rfl, .inr ⟨.inl hne, rfl⟩⟩⟩
/-- An entry was written. -/
theorem OL.setE (h : OL w base A c cl) (hx : cl[i]? = some x) (ht : x.tabs[j]? = some t) (he : t'.A = t.A ∧ t'.c = t.c ∧ t'.es.length = t.es.length) {g o : Nat} (hA : t.A = some ⟨g, o, none⟩)
    (ho : Own w' base 43 3 t.A t.es.length t.c (ecells t'.es)) (hg : w.grownBy w' (some g)) : OL w' base A c (cl.set i (setTab x j t')) := by
  have hE := (h.tab i x hx).ent j t ht
  rw [hA] at hE
  have kp : ∀ {e : TypeId} {size n c' : Nat} {A' : Option Addr} {xs : List Value}, Own w base e size A' n c' xs → e ≠ 43 → Own w' base e size A' n c' xs := fun hq hne => own_kept hq hE hne hg
  refine ⟨?_, fun k z hz => ?_, fun k z m u k' z' m' u' h1 h2 h3 h4 g' e1 e2 => ?_⟩
  · rw [List.length_set, lcells, flatC_same Lc.cs cl i x _ hx (setTab_cs x j t')]
    exact kp h.row (by decide)
  · obtain ⟨y, hy, e1, e2, e3, e4, key⟩ := setTab_get hx ht he hz
    have hT := h.tab k y hy
    refine ⟨by rw [e1, e2, e3, e4]; exact kp hT.row (by decide), fun m u hu => ?_, fun m u m' u' hu hu' g' q1 q2 => ?_⟩
    · obtain ⟨u0, h0, hA0, ⟨rfl, rfl, rfl⟩ | ⟨hne, rfl⟩⟩ := key m u hu
      · rw [he.1, he.2.1, he.2.2]
        exact ho
      · refine (hT.ent m u h0).grown hg ?_
        by_cases hb : blkOf u.A = some g
        · have := h.inj k y m u i x j t hy h0 hx ht g hb (by rw [hA]; rfl)
          omega
        · exact .inr hb
    · obtain ⟨u0, h0, hA0, -⟩ := key m u hu
      obtain ⟨u0', h0', hA0', -⟩ := key m' u' hu'
      exact hT.inj m u0 m' u0' h0 h0' g' (by rw [← hA0]; exact q1) (by rw [← hA0']; exact q2)
  · obtain ⟨y, hy, -, -, -, -, key⟩ := setTab_get hx ht he h1
    obtain ⟨y', hy', -, -, -, -, key'⟩ := setTab_get hx ht he h3
    obtain ⟨u0, h0, hA0, -⟩ := key m u h2
    obtain ⟨u0', h0', hA0', -⟩ := key' m' u' h4
    exact h.inj k y m u0 k' y' m' u0' hy h0 hy' h0' g' (by rw [← hA0]; exact e1) (by rw [← hA0']; exact e2)
theorem InL.setTab (hx : cl[i]? = some x) (ht : x.tabs[j]? = some t) (he : t'.A = t.A ∧ t'.c = t.c ∧ t'.es.length = t.es.length) {g : Nat} (h : InL A (cl.set i (setTab x j t')) g) : InL A cl g := by
  rcases h with h | ⟨k, z, hz, h⟩
  · exact .inl h
  · obtain ⟨y, hy, e1, -, -, -, key⟩ := setTab_get hx ht he hz
    rcases h with h | ⟨m, u, hu, h⟩
    · exact .inr ⟨k, y, hy, .inl (by rw [← e1]; exact h)⟩
    · obtain ⟨u0, h0, hA0, -⟩ := key m u hu
      exact .inr ⟨k, y, hy, .inr ⟨m, u0, h0, by rw [← hA0]; exact h⟩⟩
theorem InL.set {x' : Lc} (hx : cl[i]? = some x) (he : x'.A = x.A ∧ x'.tabs = x.tabs) {g : Nat} (h : InL A (cl.set i x') g) : InL A cl g := by
  rcases h with h | ⟨k, z, hz, h⟩
  · exact .inl h
  · rcases set_get hx k hz with ⟨rfl, rfl⟩ | ⟨hne, hz⟩
    · rw [he.1, he.2] at h
      exact .inr ⟨k, x, hx, h⟩
    · exact .inr ⟨k, z, hz, h⟩
end
/-- Lists of the caller's own, the lists told behind them, and the Daq. -/
structure WX (w0 : World) (base top : Nat) (Φ : Who) (q : Nat) (a : Dq) (A : Option Addr) (c nl : Nat) (A6 : Option Addr) (c6 : Nat) (cy cl : List Lc) (w : World) : Prop where
  o : OL w base A c cl
  n : cl.length = nl
  lt : ∀ g, InL A cl g → g < top
  y : OL w top A6 c6 cy
  x : DX Φ w0.heap.size w q a
  nu : Nu Φ w
  bel : Below w0.heap.size w0 w
  nb : ∀ g, base ≤ g → g < top → Φ g = (0, 9)
  bz : w0.heap.size ≤ base
section
variable {w0 w w' : World} {base top : Nat} {Φ : Who} {q : Nat} {a : Dq} {A : Option Addr} {c nl : Nat} {A6 : Option Addr} {c6 : Nat} {cy cl : List Lc} {i j : Nat} {x : Lc} {t t' : Tb}
theorem OL.far {base top g : Nat} {A : Option Addr} {c : Nat} {l : List Lc} (h : OL w top A c l) (hg : w.grownBy w' (some g)) (hlt : g < top) : OL w' top A c l := by
  have k : ∀ {e : TypeId} {size n c : Nat} {A : Option Addr} {xs : List Value}, Own w top e size A n c xs → Own w' top e size A n c xs := fun ho => ho.grown hg (.inr fun hb => by have := (ho.lt hb).1; omega)
  exact ⟨k h.row, fun i x hx => ⟨k (h.tab i x hx).row, fun j t ht => k ((h.tab i x hx).ent j t ht), (h.tab i x hx).inj⟩, h.inj⟩
theorem WX.keep (h : WX w0 base top Φ q a A c nl A6 c6 cy cl w) {g : Nat} (hg : w.grownBy w' (some g)) (hin : InL A cl g) : OL w' top A6 c6 cy ∧ DX Φ w0.heap.size w' q a ∧ Nu Φ w' ∧ Below w0.heap.size w0 w' := by
  have h1 := InL.lt h.o hin
  have h2 := h.lt g hin
  have hB : w0.heap.size ≤ g := Nat.le_trans h.bz h1.1
  obtain ⟨X, N⟩ := h.x.one9 h.nu hg hB (h.nb g h1.1 h2)
  exact ⟨h.y.far (base := base) hg h2, X, N, bel_grown h.bel hg hB⟩
theorem WX.setL (h : WX w0 base top Φ q a A c nl A6 c6 cy cl w) {g o : Nat} (hA : A = some ⟨g, o, none⟩) {x' : Lc} (hx : cl[i]? = some x) {m : Nat} {cs : List Value} (hj : m + cs.length ≤ 8) (hc : x'.cs = putL x.cs m cs) (he : x'.A = x.A ∧ x'.c = x.c ∧ x'.tabs = x.tabs)
    (ho : Own w' base 40 8 A nl c (putL (lcells cl) (i * 8 + m) cs)) (hg : w.grownBy w' (some g)) : WX w0 base top Φ q a A c nl A6 c6 cy (cl.set i x') w' := by
  obtain ⟨k1, k2, k3, k4⟩ := h.keep hg (.inl (by rw [hA]; rfl))
  have h1 := h.o
  rw [← h.n] at ho
  rw [hA] at h1 ho
  refine ⟨by rw [hA]; exact h1.setL hx hj hc he ho hg, by rw [List.length_set]; exact h.n, fun g' hg' => h.lt g' (InL.set hx ⟨he.1, he.2.2⟩ hg'), k1, k2, k3, k4, h.nb, h.bz⟩
theorem WX.setE (h : WX w0 base top Φ q a A c nl A6 c6 cy cl w) (hx : cl[i]? = some x) (ht : x.tabs[j]? = some t) (he : t'.A = t.A ∧ t'.c = t.c ∧ t'.es.length = t.es.length) {g o : Nat} (hA : t.A = some ⟨g, o, none⟩)
    (ho : Own w' base 43 3 t.A t.es.length t.c (ecells t'.es)) (hg : w.grownBy w' (some g)) : WX w0 base top Φ q a A c nl A6 c6 cy (cl.set i (setTab x j t')) w' := by
  obtain ⟨k1, k2, k3, k4⟩ := h.keep hg (.inr ⟨i, x, hx, .inr ⟨j, t, ht, by rw [hA]; rfl⟩⟩)
  exact ⟨h.o.setE hx ht he hA ho hg, by rw [List.length_set]; exact h.n, fun g' hg' => h.lt g' (InL.setTab hx ht he hg'), k1, k2, k3, k4, h.nb, h.bz⟩
end
end Go.Proofs.Ytjjifldgfihjgaa
