/- What a row of packets, or of acts, that came in, holds. -/
import Derived.Test.YtchneedpgpocnaaQF
import Derived.Test.YtchneedpgpocnaaOpen
import Derived.Deep.Slices
import Derived.Deep.Fields
import Derived.ChangeSlices
namespace Go.Proofs.Ytchneedpgpocnaa
open Go.RowKit Go.ChangeShapes Go.WideShapes Go.Deep
set_option linter.unusedVariables false
set_option linter.unusedSimpArgs false
theorem list_of {α : Type} (p : Nat → α → Prop) : ∀ n : Nat, (∀ i, i < n → ∃ a, p i a) → ∃ l : List α, l.length = n ∧ ∀ i a, l[i]? = some a → p i a
  | 0, _ => ⟨[], rfl, fun i a h => by simp at h⟩
  | n + 1, h => by
    obtain ⟨l, hl, hp⟩ := list_of p n fun i hi => h i (by omega)
    obtain ⟨a, ha⟩ := h n (by omega)
    refine ⟨l ++ [a], by simp [hl], fun i b hb => ?_⟩
    rcases Nat.lt_or_ge i n with hi | hi
    · rw [List.getElem?_append_left (by omega)] at hb
      exact hp i b hb
    · rw [List.getElem?_append_right (by omega)] at hb
      obtain ⟨h0, hb⟩ := List.getElem?_eq_some_iff.1 hb
      simp at h0
      obtain rfl : i = n := by omega
      simp at hb
      subst hb
      exact ha
def flat3 {α : Type} (c0 c1 c2 : α → Value) : List α → List Value
  | [] => []
  | t :: l => c0 t :: c1 t :: c2 t :: flat3 c0 c1 c2 l
theorem flat3_get {α : Type} (c0 c1 c2 : α → Value) : ∀ (l : List α) (i : Nat) (u : Value), (flat3 c0 c1 c2 l)[i]? = some u → ∃ t, l[i / 3]? = some t ∧ [c0 t, c1 t, c2 t][i % 3]? = some u
  | [], i, u, h => by simp [flat3] at h
  | t :: l, 0, u, h => ⟨t, rfl, h⟩
  | t :: l, 1, u, h => ⟨t, rfl, h⟩
  | t :: l, 2, u, h => ⟨t, rfl, h⟩
  | t :: l, i + 3, u, h => by
    obtain ⟨t', h1, h2⟩ := flat3_get c0 c1 c2 l i u h
    refine ⟨t', ?_, ?_⟩
    · rw [show (i + 3) / 3 = i / 3 + 1 by omega]; exact h1
    · rw [show (i + 3) % 3 = i % 3 by omega]; exact h2
theorem cellsL_flat : ∀ l : List It, cellsL l = flat3 (fun t => .int .u8 t.kind) (fun t => .int .u8 t.code) (fun t => .slice t.A t.n t.c) l
  | [] => rfl
  | t :: l => by rw [flat3, ← cellsL_flat l]; rfl
theorem cellsA_flat : ∀ l : List Ac, cellsA l = flat3 (fun t => .int .u8 t.kind) (fun t => .int .i64 t.list) (fun t => .slice t.A t.n t.c) l
  | [] => rfl
  | t :: l => by rw [flat3, ← cellsA_flat l]; rfl
section
variable {H : Type} {enc : TypeId × Value → H} {P : Program} {w : World} {base : Nat} {spare : Nat → Bool} {held : Bool}
theorem three_of {e : TypeId} {f0 f1 f2 : Field} {n : Nat} {cs : List Value} {x : DataW H × List MemPlace} (he : P.underlying e = some (.struct #[f0, f1, f2])) (hone : oneCellFields P #[f0, f1, f2] = true) (hC : P.cellsOf e = 3) (h : DataW.trod enc P w base spare held n e cs = some x) :
    ∃ (v0 v1 v2 : Value) (m : Nat) (y0 y1 y2 : DataW H × List MemPlace), cs = [v0, v1, v2] ∧ DataW.trod enc P w base spare held m f0.type [v0] = some y0 ∧ DataW.trod enc P w base spare held m f1.type [v1] = some y1 ∧ DataW.trod enc P w base spare held m f2.type [v2] = some y2 := by
  obtain ⟨xs, m, _, _, hlen, hxl, hf⟩ := DataW.trod_struct he h
  rw [hC] at hlen
  obtain ⟨o0, k0⟩ := hone_of hone 0 f0 rfl
  obtain ⟨o1, k1⟩ := hone_of hone 1 f1 rfl
  obtain ⟨o2, k2⟩ := hone_of hone 2 f2 rfl
  match cs, hlen, xs, hxl with
  | [v0, v1, v2], _, [y0, y1, y2], _ =>
    exact ⟨v0, v1, v2, m, y0, y1, y2, rfl, by simpa [o0, k0] using hf 0 f0 rfl, by simpa [o1, k1] using hf 1 f1 rfl, by simpa [o2, k2] using hf 2 f2 rfl⟩
theorem row3 {α : Type} (c0 c1 c2 : α → Value) (G : α → Prop) {t e : TypeId} {f0 f1 f2 : Field} {fuel : Nat} {cs : List Value} {x : DataW H × List MemPlace} (ht : P.underlying t = some (.slice e)) (he : P.underlying e = some (.struct #[f0, f1, f2])) (hone : oneCellFields P #[f0, f1, f2] = true) (hC : P.cellsOf e = 3)
    (hel : ∀ (v0 v1 v2 : Value) (m : Nat) (y0 y1 y2 : DataW H × List MemPlace), DataW.trod enc P w base spare held m f0.type [v0] = some y0 → DataW.trod enc P w base spare held m f1.type [v1] = some y1 → DataW.trod enc P w base spare held m f2.type [v2] = some y2 → ∃ t : α, c0 t = v0 ∧ c1 t = v1 ∧ c2 t = v2 ∧ G t)
    (h : DataW.trod enc P w base spare held fuel t cs = some x) :
    ∃ (A : Option Addr) (n c : Nat) (l : List α), cs = [.slice A n c] ∧ n ≤ c ∧ c ≤ maxLen ∧ (A = none → n = 0 ∧ c = 0) ∧ l.length = n ∧ (∀ t ∈ l, G t) ∧ Rd w w.heap.size A (flat3 c0 c1 c2 l) := by
  rcases open_slice ht h with ⟨hcs, _⟩ | ⟨a, len, cap, m, n, D, Pl, hcs, hb, hl, hm, hmm, hx, hi⟩
  · exact ⟨none, 0, 0, [], hcs, Nat.le_refl _, Nat.zero_le _, fun _ => ⟨rfl, rfl⟩, rfl, fun t h => (by cases h), fun h => absurd rfl h⟩
  · have hlm : len ≤ m := by rw [hmm]; split <;> omega
    rw [hC] at hi
    obtain ⟨l, hll, hp⟩ := list_of (fun i (t : α) => G t ∧ w.cell? (a.add (i * 3)) = some (c0 t) ∧ w.cell? (a.add (i * 3 + 1)) = some (c1 t) ∧ w.cell? (a.add (i * 3 + 2)) = some (c2 t)) len fun i hlt => by
      obtain ⟨cs', hc, hd⟩ := hi i (by omega)
      obtain ⟨_, hcl, hat⟩ := World.cells?_some hc
      obtain ⟨v0, v1, v2, m', y0, y1, y2, rfl, q0, q1, q2⟩ := three_of he hone hC hd
      obtain ⟨t, rfl, rfl, rfl, hG⟩ := hel _ _ _ _ _ _ _ q0 q1 q2
      refine ⟨t, hG, ?_, ?_, ?_⟩
      · rw [← Nat.add_zero (i * 3), ← Go.Deep.add_add]; exact hat 0 (by omega)
      · rw [← Go.Deep.add_add]; exact hat 1 (by omega)
      · rw [← Go.Deep.add_add]; exact hat 2 (by omega)
    refine ⟨some a, len, cap, l, hcs, hl, hm, fun h => (by cases h), hll, fun t ht => ?_, fun hn => ?_⟩
    · obtain ⟨i, hi⟩ := List.getElem?_of_mem ht
      exact (hp i t hi).1
    · obtain ⟨t0, ht0⟩ : ∃ t, l[0]? = some t := by
        cases l with
        | nil => exact absurd rfl hn
        | cons t l => exact ⟨t, rfl⟩
      have h0 := (hp 0 t0 ht0).2.1
      obtain ⟨b, o, s⟩ := a
      obtain rfl : s = none := by simpa [Addr.add] using World.cell?_spot h0
      refine ⟨b, o, rfl, World.block_lt_of_cell? _ ⟨b, o, none⟩ (by simpa [Addr.add] using h0), fun i u hu => ?_⟩
      obtain ⟨t, h1, h2⟩ := flat3_get c0 c1 c2 l i u hu
      obtain ⟨_, q0, q1, q2⟩ := hp _ t h1
      simp only [add_none] at q0 q1 q2
      have hi3 : i % 3 < 3 := Nat.mod_lt _ (by decide)
      rcases (by omega : i % 3 = 0 ∨ i % 3 = 1 ∨ i % 3 = 2) with hr | hr | hr
      · rw [hr] at h2; simp at h2; subst h2
        rw [show o + i = o + i / 3 * 3 by omega]; exact q0
      · rw [hr] at h2; simp at h2; subst h2
        rw [show o + i = o + (i / 3 * 3 + 1) by omega]; exact q1
      · rw [hr] at h2; simp at h2; subst h2
        rw [show o + i = o + (i / 3 * 3 + 2) by omega]; exact q2
end
section
variable {H : Type} {enc : TypeId × Value → H} {w : World} {base : Nat} {spare : Nat → Bool} {held : Bool}
theorem wf8 {n : Int} (h : (Lit.int .u8 n).wf = true) : 0 ≤ n ∧ n < 256 := wf_u8 h
/-- A row of packets that came in. -/
theorem open_reps {fuel : Nat} {cs : List Value} {x : DataW H × List MemPlace} (h : DataW.trod enc Try.prog w base spare held fuel 28 cs = some x) :
    ∃ (A : Option Addr) (n c : Nat) (l : List It), cs = [.slice A n c] ∧ n ≤ c ∧ c ≤ maxLen ∧ (A = none → n = 0 ∧ c = 0) ∧ l.length = n ∧ (∀ t ∈ l, PkIn w w.heap.size t) ∧ Rd w w.heap.size A (cellsL l) := by
  obtain ⟨A, n, c, l, h1, h2, h3, h4, h5, h6, h7⟩ := row3 (fun t : It => .int .u8 t.kind) (fun t => .int .u8 t.code) (fun t => .slice t.A t.n t.c) (PkIn w w.heap.size) Try.underlying28 Try.underlying31 (by kernel_rfl) (by kernel_rfl) (fun v0 v1 v2 m y0 y1 y2 q0 q1 q2 => by
    obtain ⟨k, e0, _, w0⟩ := DataW.trod_int Try.underlying5 q0
    obtain ⟨cd, e1, _, w1⟩ := DataW.trod_int Try.underlying5 q1
    simp only [List.cons.injEq, and_true] at e0 e1
    rcases open_ints Try.underlying22 Try.underlying5 (by kernel_rfl) q2 with ⟨hcs, _⟩ | ⟨a, len, cap, zs, hcs, hb, hl, hm, hz, _, hcell, hwz⟩
    · simp only [List.cons.injEq, and_true] at hcs
      exact ⟨⟨k, cd, none, 0, 0, []⟩, e0.symm, e1.symm, hcs.symm, (wf8 w0).1, (wf8 w0).2, (wf8 w1).1, (wf8 w1).2, rfl, Nat.le_refl _, Nat.zero_le _, fun _ => ⟨rfl, rfl⟩, fun h => absurd rfl h⟩
    · simp only [List.cons.injEq, and_true] at hcs
      have hzl : len ≤ zs.length := by rw [hz]; split <;> omega
      refine ⟨⟨k, cd, some a, len, cap, zs.take len⟩, e0.symm, e1.symm, hcs.symm, (wf8 w0).1, (wf8 w0).2, (wf8 w1).1, (wf8 w1).2, by simp; omega, hl, hm, fun h => (by cases h), fun hn => ?_⟩
      have hpos : 0 < zs.length := by
        cases zs with
        | nil => simp at hn
        | cons z r => simp
      have h0 := hcell 0 hpos
      obtain ⟨b, o, s⟩ := a
      obtain rfl : s = none := by simpa [Addr.add] using World.cell?_spot h0
      refine ⟨b, o, rfl, World.block_lt_of_cell? _ ⟨b, o, none⟩ (by simpa [Addr.add] using h0), fun i u hu => ?_⟩
      simp only [List.getElem?_map, List.getElem?_take] at hu
      split at hu
      · obtain ⟨z, hzz, rfl⟩ := Option.map_eq_some_iff.1 hu
        have := hcell i (List.getElem?_eq_some_iff.1 hzz).1
        rw [add_none] at this
        rw [this]
        simp [hzz]
      · simp at hu) h
  exact ⟨A, n, c, l, h1, h2, h3, h4, h5, h6, by rw [cellsL_flat]; exact h7⟩
/-- A row of acts that came in. -/
theorem open_acts {fuel : Nat} {cs : List Value} {x : DataW H × List MemPlace} (h : DataW.trod enc Try.prog w base spare held fuel 42 cs = some x) :
    ∃ (A : Option Addr) (n c : Nat) (l : List Ac), cs = [.slice A n c] ∧ n ≤ c ∧ c ≤ maxLen ∧ l.length = n ∧ (∀ t ∈ l, AcIn w w.heap.size t) ∧ Rd w w.heap.size A (cellsA l) := by
  obtain ⟨A, n, c, l, h1, h2, h3, h4, h5, h6, h7⟩ := row3 (fun t : Ac => .int .u8 t.kind) (fun t => .int .i64 t.list) (fun t => .slice t.A t.n t.c) (AcIn w w.heap.size) Try.underlying42 Try.underlying48 (by kernel_rfl) (by kernel_rfl) (fun v0 v1 v2 m y0 y1 y2 q0 q1 q2 => by
    obtain ⟨k, e0, _, w0⟩ := DataW.trod_int Try.underlying5 q0
    obtain ⟨cd, e1, _, w1⟩ := DataW.trod_int Try.underlying3 q1
    simp only [List.cons.injEq, and_true] at e0 e1
    obtain ⟨A', n', c', l', e2, g1, g2, g3, g4, g5, g6⟩ := open_reps q2
    simp only [List.cons.injEq, and_true] at e2
    exact ⟨⟨k, cd, A', n', c', l'⟩, e0.symm, e1.symm, e2.symm, (wf8 w0).1, (wf8 w0).2, (wf_i64 w1).1, (wf_i64 w1).2, g4, Nat.le_trans g1 g2, g6, g5⟩) h
  exact ⟨A, n, c, l, h1, h2, h3, h5, h6, by rw [cellsA_flat]; exact h7⟩
end
end Go.Proofs.Ytchneedpgpocnaa
