/- BusOnce: what the law holds: the nodes, blocks of its own, and its row of frames. -/
import Derived.Test.YtbmkfjgodgmjnaaDC
namespace Go.Proofs.Ytbmkfjgodgmjnaa
open Go.RowKit
set_option linter.unusedVariables false
set_option linter.unusedSimpArgs false
abbrev Own8 (B : Nat) (S : Option Addr) (c : Nat) (l : List Fr) (Φ : Who) (w : World) : Prop := OwC Φ (0, 8) w B 26 11 S l.length c (fcells l)
def CW (w : World) (ks : List (Nat × TypeId × Array Value)) (q r : Nat → Nat) (A A' : Option Addr) (t : Nat → Bx) (S : Option Addr) (c : Nat) (l : List Fr) (s : Nat → Bx) (w' : World) : Prop :=
  ∃ Φ, NS w.heap.size (in3 q) (in3 r) w A (nodesL q) A' (nodesL r) s t Φ w' ∧ (∀ k ∈ ks, BlC Φ (0, 9) w' k.1 k.2.1 k.2.2) ∧ Own8 w.heap.size S c l Φ w'
def CWP (w : World) (ks : List (Nat × TypeId × Array Value)) (q r : Nat → Nat) (A A' : Option Addr) (t : Nat → Bx) (S : Option Addr) (c : Nat) (l : List Fr) (s : Nat → Bx) (v : Value) (e : Ending) (w' : World) : Prop := e = .returned v ∧ CW w ks q r A A' t S c l s w'
section
variable {f : Fr} {w w1 w2 : World} {ks : List (Nat × TypeId × Array Value)} {q r : Nat → Nat} {A A' S : Option Addr} {c : Nat} {l : List Fr} {t s s2 : Nat → Bx} {Φ : Who}
theorem CW.below (h : CW w ks q r A A' t S c l s w1) (hb : Below w1.heap.size w1 w2) : CW w ks q r A A' t S c l s w2 := by
  obtain ⟨Φ, h1, h2, h3⟩ := h
  exact ⟨Φ, h1.below hb, fun k hk => (h2 k hk).below hb, h3.below hb⟩
theorem CW.mono (h : CW w ks q r A A' t S c l s w1) {ks' : List (Nat × TypeId × Array Value)} (hk : ∀ k ∈ ks', k ∈ ks) : CW w ks' q r A A' t S c l s w1 := by
  obtain ⟨Φ, h1, h2, h3⟩ := h
  exact ⟨Φ, h1, fun k h => h2 k (hk k h), h3⟩
theorem CW.new (h : CW w ks q r A A' t S c l s w1) (hb : Below w1.heap.size w1 w2) {g : Nat} {ty : TypeId} {cs : Array Value} (hB : Blk w2 g ty cs) (hg : w1.heap.size ≤ g) : CW w ((g, ty, cs) :: ks) q r A A' t S c l s w2 := by
  obtain ⟨Φ, h1, h2, h3⟩ := h
  refine ⟨Φ, h1.below hb, fun k hk => ?_, h3.below hb⟩
  rcases List.mem_cons.1 hk with rfl | hk
  · exact ⟨hB, h1.n g hg⟩
  · exact (h2 k hk).below hb
theorem CW.call {e : Ending} {v : Value} {Φ : Who} (h : ∀ k ∈ ks, BlC Φ (0, 9) w1 k.1 k.2.1 k.2.2) (h3 : Own8 w.heap.size S c l Φ w1) (hp : CallP w.heap.size (NS w.heap.size (in3 q) (in3 r) w A (nodesL q) A' (nodesL r) s2 t) v Φ w1 e w2) : CWP w ks q r A A' t S c l s2 v e w2 := by
  obtain ⟨he, Φ', g1, g2⟩ := hp
  exact ⟨he, Φ', g1, fun k hk => (h k hk).ext g2 SA.no9, h3.ext g2 SA.no8⟩
theorem CW.send (h : CW w ks q r A A' t S c l s w1) {i : Nat} (hi : i < 3) (f : Fr) (hf : f.wf) : Calls Try.prog 18 #[.pointer (some ⟨q i, 0, none⟩), f.val] w1 (CWP w ks q r A A' t S c l (upd s (q i) (sendX (s (q i)) f)) (.int .i64 (sendE (s (q i)) f))) := by
  obtain ⟨Φ, h1, h2, h3⟩ := h
  exact (ns_send h1 ⟨i, hi, rfl⟩ f hf).mono fun e w' hp => CW.call h2 h3 hp
theorem CW.over (h : CW w ks q r A A' t S c l s w1) {i : Nat} (hi : i < 3) : Calls Try.prog 24 #[.pointer (some ⟨q i, 0, none⟩)] w1 (CWP w ks q r A A' t S c l (upd s (q i) { s (q i) with lost := false }) (.bool (s (q i)).lost)) := by
  obtain ⟨Φ, h1, h2, h3⟩ := h
  exact (ns_over h1 ⟨i, hi, rfl⟩).mono fun e w' hp => CW.call h2 h3 hp
theorem CW.turn (h : CW w ks q r A A' t S c l s w1) {cn : Nat} (lost : Bool) (hc3 : 3 ≤ cn) (hc : cn ≤ maxLen) : Calls Try.prog 37 #[.bool lost, .slice A 3 cn] w1 (CWP w ks q r A A' t S c l (turnS (nodesL q) s 3 lost) (.tuple #[.int .i64 (turnV (nodesL q) s 3).1, (turnV (nodesL q) s 3).2.1.val, .bool (turnV (nodesL q) s 3).2.2])) := by
  obtain ⟨Φ, h1, h2, h3⟩ := h
  exact (ns_turn (n := 3) h1 lost (nodesL_in q) rfl hc3 hc).mono fun e w' hp => CW.call h2 h3 hp
theorem CW.wait (h : CW w ks q r A A' t S c l s w1) {i : Nat} (hi : i < 3) : Calls Try.prog 21 #[.pointer (some ⟨q i, 0, none⟩)] w1 fun e w' => e = .returned (.int .i64 (s (q i)).tx.length) ∧ w1 = w' := by
  obtain ⟨Φ, h1, -⟩ := h
  exact ns_wait h1 ⟨i, hi, rfl⟩
theorem CW.taken (h : CW w ks q r A A' t S c l s w1) {i : Nat} (hi : i < 3) : Calls Try.prog 34 #[.pointer (some ⟨q i, 0, none⟩)] w1 fun e w' => e = .returned (.int .i64 (s (q i)).rx.length) ∧ w1 = w' := by
  obtain ⟨Φ, h1, -⟩ := h
  exact ns_taken h1 ⟨i, hi, rfl⟩
theorem CW.tx3 (h : CW w ks q r A A' t S c l s w1) {i : Nat} (hi : i < 3) : (s (q i)).tx.length ≤ 3 := by
  obtain ⟨Φ, h1, -⟩ := h
  exact (h1.p (q i) ⟨i, hi, rfl⟩).2.1.t3
theorem CW.blk (h : CW w ks q r A A' t S c l s w1) {g : Nat} {ty : TypeId} {cs : Array Value} (hk : (g, ty, cs) ∈ ks) : Blk w1 g ty cs := by
  obtain ⟨Φ, -, h2, -⟩ := h
  exact (h2 _ hk).1
theorem CW.bel (h : CW w ks q r A A' t S c l s w1) : Below w.heap.size w w1 := by
  obtain ⟨Φ, h1, -⟩ := h
  exact h1.bel
theorem CW.own (h : CW w ks q r A A' t S c l s w1) : Own w1 w.heap.size 26 11 S l.length c (fcells l) := by
  obtain ⟨Φ, -, -, h3⟩ := h
  exact h3.1
theorem CW.ad (h : CW w ks q r A A' t S c l s w1) : ∃ g o, A = some ⟨g, o, none⟩ := by
  obtain ⟨Φ, h1, -⟩ := h
  obtain ⟨g, o, e, -⟩ := h1.node (nodesL_get q (i := 0) (by decide))
  exact ⟨g, o, e⟩
theorem CW.nc {g o : Nat} (h : CW w ks q r (some ⟨g, o, none⟩) A' t S c l s w1) {i : Nat} (hi : i < 3) : w1.cell? ⟨g, o + i, none⟩ = some (.pointer (some ⟨q i, 0, none⟩)) := by
  obtain ⟨Φ, h1, -⟩ := h
  obtain ⟨g', o', e, hc⟩ := h1.node (nodesL_get q hi)
  simp only [Option.some.injEq, Addr.mk.injEq] at e
  obtain ⟨rfl, rfl, -⟩ := e
  exact hc _ (Below.refl _ _)
/-- Whatever the nodes hold stays where only the law's own row is written. -/
theorem CW.row (h : CW w ks q r A A' t S c l s w1) {S2 : Option Addr} {c2 : Nat} {l2 : List Fr} (ho : Own w2 w.heap.size 26 11 S2 l2.length c2 (fcells l2)) (hx : ∀ Φ, NS w.heap.size (in3 q) (in3 r) w A (nodesL q) A' (nodesL r) s t Φ w1 → Own8 w.heap.size S c l Φ w1 → Ext w.heap.size (fun c => c = (0, 8)) Φ (paint Φ S2 (0, 8)) w1 w2) : CW w ks q r A A' t S2 c2 l2 s w2 := by
  obtain ⟨Φ, h1, h2, h3⟩ := h
  have x := hx Φ h1 h3
  have no : ∀ (q j : Nat), j < 3 → ¬ ((q, j) : Nat × Nat) = (0, 8) := fun q j hj hh => by simp at hh; omega
  have no3 : ∀ (q : Nat), ¬ ((q, 3) : Nat × Nat) = (0, 8) := fun q hh => by simp at hh
  exact ⟨_, ⟨h1.p.ext x (fun q j _ hj => no q j hj) (by simp), h1.r.ext x (fun q _ => no3 q) (by simp), x.nu, h1.rp.ext x (by simp), h1.rr.ext x (by simp), Nat.le_trans h1.b x.size, h1.bel.trans (x.below h1.b), h1.b0⟩,
    fun k hk => (h2 k hk).ext x (by simp), OwC.paint_self ho⟩
/-- One more frame behind the row. -/
theorem CW.app (h : CW w ks q r A A' t S c l s w1) {f : Fr} {ty : TypeId} {S2 : Option Addr} {c2 : Nat} (ho : Own w2 w.heap.size 26 11 S2 (l.length + 1) c2 (fcells l ++ f.cs)) (hg : (w1.alloc (.cells f.cs.toArray ty)).grownBy w2 (blkOf S)) (hd : blkOf S2 = blkOf S ∨ blkOf S2 = some (w1.alloc (.cells f.cs.toArray ty)).heap.size) : CW w ks q r A A' t S2 c2 (l ++ [f]) s w2 := by
  refine h.row (by rw [List.length_append, fcells_app]; simp only [fcells, List.append_nil]; exact ho) fun Φ h1 h3 => ?_
  have hb := bl1 w1 (.cells f.cs.toArray ty)
  have oa := h3.below hb
  exact ((Ext.of_below (B := w.heap.size) (S := fun c => c = (0, 8)) h1.n hb).grown (fun g hg => ⟨(oa.1.lt hg).1, oa.2 g hg⟩) hg).paint (fun g hg => ⟨(ho.lt hg).2, fun hlt => by
    rcases hd with e | e
    · exact h3.2 g (by rw [← e]; exact hg)
    · rw [e] at hg
      simp only [Option.some.injEq] at hg
      simp at hg
      omega⟩)
/-- Another row, just made. -/
theorem CW.anew (h : CW w ks q r A A' t S c l s w1) {S2 : Option Addr} {n2 c2 : Nat} {l2 : List Fr} (hl : l2.length = n2) (ho : Own w2 w1.heap.size 26 11 S2 n2 c2 (fcells l2)) (hb : Below w1.heap.size w1 w2) : CW w ks q r A A' t S2 c2 l2 s w2 := by
  subst hl
  refine h.row (ho.more h.bel.size) fun Φ h1 h3 => ?_
  exact (Ext.of_below (B := w.heap.size) (S := fun c => c = (0, 8)) h1.n hb).paint (fun g hg => ⟨(ho.lt hg).2, fun hlt => by have := (ho.lt hg).1; omega⟩)
end
/-- Where f stands in the first k of l: the last place, or none. -/
def AtI (l : List Fr) (f : Fr) (k : Nat) (v : Value) : Prop := (v = .int .i64 (-1) ∧ ∀ j g, j < k → l[j]? = some g → g.cs ≠ f.cs) ∨ ∃ (a : Nat) (g : Fr), v = .int .i64 a ∧ a < k ∧ l[a]? = some g ∧ g.cs = f.cs
theorem AtI.skip {l : List Fr} {f g : Fr} {k : Nat} {v : Value} (h : AtI l f k v) (hk : l[k]? = some g) (he : g.eqb f = false) : AtI l f (k + 1) v := by
  rcases h with ⟨h1, h2⟩ | ⟨a, x, h1, h2, h3⟩
  · refine .inl ⟨h1, fun j y hj hy => ?_⟩
    rcases Nat.lt_or_ge j k with hjk | hjk
    · exact h2 j y hjk hy
    · obtain rfl : j = k := by omega
      rw [hk] at hy
      cases hy
      intro hc
      rw [(eqb_iff g f).2 hc] at he
      cases he
  · exact .inr ⟨a, x, h1, by omega, h3⟩
theorem AtI.hit {l : List Fr} {f g : Fr} {k : Nat} (hk : l[k]? = some g) (he : g.eqb f = true) : AtI l f (k + 1) (.int .i64 k) := .inr ⟨k, g, rfl, by omega, hk, (eqb_iff g f).1 he⟩
/-- Of two rows that came in. -/
def KZ (Ad : Nat → Option Addr) (ns cs : Nat → Nat) (g : Nat) : List (Nat × TypeId × Array Value) := [(g, 36, #[.slice (Ad 0) (ns 0) (cs 0), .slice (Ad 1) (ns 1) (cs 1)])]
end Go.Proofs.Ytbmkfjgodgmjnaa
