/- What a law holds behind nodes: three nodes of each side, and blocks that stay. -/
import Derived.Test.YtbmkfjgodgmjnaaD7
namespace Go.Proofs.Ytbmkfjgodgmjnaa
open Go.RowKit
set_option linter.unusedVariables false
set_option linter.unusedSimpArgs false
/-- ks: the blocks of the law's own (block, type, cells). -/
def CG (w : World) (ks : List (Nat × TypeId × Array Value)) (q r : Nat → Nat) (A A' : Option Addr) (s t : Nat → Bx) (w' : World) : Prop :=
  ∃ Φ, NS w.heap.size (in3 q) (in3 r) w A (nodesL q) A' (nodesL r) s t Φ w' ∧ ∀ k ∈ ks, BlC Φ (0, 9) w' k.1 k.2.1 k.2.2
def CGP (w : World) (ks : List (Nat × TypeId × Array Value)) (q r : Nat → Nat) (A A' : Option Addr) (s t : Nat → Bx) (v : Value) (e : Ending) (w' : World) : Prop := e = .returned v ∧ CG w ks q r A A' s t w'
section
variable {f : Fr} {w w1 w2 : World} {ks : List (Nat × TypeId × Array Value)} {q r : Nat → Nat} {A A' : Option Addr} {t s s2 t2 : Nat → Bx} {Φ : Who}
theorem CG.below (h : CG w ks q r A A' s t w1) (hb : Below w1.heap.size w1 w2) : CG w ks q r A A' s t w2 := by
  obtain ⟨Φ, h1, h2⟩ := h
  exact ⟨Φ, h1.below hb, fun k hk => (h2 k hk).below hb⟩
theorem CG.mono (h : CG w ks q r A A' s t w1) {ks' : List (Nat × TypeId × Array Value)} (hk : ∀ k ∈ ks', k ∈ ks) : CG w ks' q r A A' s t w1 := by
  obtain ⟨Φ, h1, h2⟩ := h
  exact ⟨Φ, h1, fun k h => h2 k (hk k h)⟩
/-- A block that was just made is the law's own from now on. -/
theorem CG.new (h : CG w ks q r A A' s t w1) (hb : Below w1.heap.size w1 w2) {g : Nat} {ty : TypeId} {cs : Array Value} (hB : Blk w2 g ty cs) (hg : w1.heap.size ≤ g) : CG w ((g, ty, cs) :: ks) q r A A' s t w2 := by
  obtain ⟨Φ, h1, h2⟩ := h
  refine ⟨Φ, h1.below hb, fun k hk => ?_⟩
  rcases List.mem_cons.1 hk with rfl | hk
  · exact ⟨hB, h1.n g hg⟩
  · exact (h2 k hk).below hb
theorem CG.call {e : Ending} {v : Value} {Φ : Who} (h : ∀ k ∈ ks, BlC Φ (0, 9) w1 k.1 k.2.1 k.2.2) (hp : CallP w.heap.size (NS w.heap.size (in3 q) (in3 r) w A (nodesL q) A' (nodesL r) s2 t2) v Φ w1 e w2) : CGP w ks q r A A' s2 t2 v e w2 := by
  obtain ⟨he, Φ', g1, g2⟩ := hp
  exact ⟨he, Φ', g1, fun k hk => (h k hk).ext g2 SA.no9⟩
theorem CG.send (h : CG w ks q r A A' s t w1) {i : Nat} (hi : i < 3) (f : Fr) (hf : f.wf) : Calls Try.prog 18 #[.pointer (some ⟨q i, 0, none⟩), f.val] w1 (CGP w ks q r A A' (upd s (q i) (sendX (s (q i)) f)) t (.int .i64 (sendE (s (q i)) f))) := by
  obtain ⟨Φ, h1, h2⟩ := h
  exact (ns_send h1 ⟨i, hi, rfl⟩ f hf).mono fun e w' hp => CG.call h2 hp
theorem CG.rsend (h : CG w ks q r A A' s t w1) {i : Nat} (hi : i < 3) (f : Fr) (hf : f.wf) : Calls Try.prog 28 #[.pointer (some ⟨r i, 0, none⟩), f.val] w1 (CGP w ks q r A A' s (upd t (r i) (rsendX (t (r i)) f)) (.int .i64 (sendE (t (r i)) f))) := by
  obtain ⟨Φ, h1, h2⟩ := h
  exact (ns_rsend h1 ⟨i, hi, rfl⟩ f hf).mono fun e w' hp => CG.call h2 hp
theorem CG.over (h : CG w ks q r A A' s t w1) {i : Nat} (hi : i < 3) : Calls Try.prog 24 #[.pointer (some ⟨q i, 0, none⟩)] w1 (CGP w ks q r A A' (upd s (q i) { s (q i) with lost := false }) t (.bool (s (q i)).lost)) := by
  obtain ⟨Φ, h1, h2⟩ := h
  exact (ns_over h1 ⟨i, hi, rfl⟩).mono fun e w' hp => CG.call h2 hp
theorem CG.recv (h : CG w ks q r A A' s t w1) {i : Nat} (hi : i < 3) : Calls Try.prog 23 #[.pointer (some ⟨q i, 0, none⟩)] w1 (CGP w ks q r A A' (upd s (q i) { s (q i) with rx := (s (q i)).rx.tail }) t (.tuple #[((s (q i)).rx.headD Fr.none_).val, .bool (!(s (q i)).rx.isEmpty)])) := by
  obtain ⟨Φ, h1, h2⟩ := h
  exact (ns_recv h1 ⟨i, hi, rfl⟩).mono fun e w' hp => CG.call h2 hp
theorem CG.rrecv (h : CG w ks q r A A' s t w1) {i : Nat} (hi : i < 3) : Calls Try.prog 31 #[.pointer (some ⟨r i, 0, none⟩)] w1 (CGP w ks q r A A' s (upd t (r i) { t (r i) with rx := (t (r i)).rx.tail }) (.tuple #[((t (r i)).rx.headD Fr.none_).val, .bool (!(t (r i)).rx.isEmpty)])) := by
  obtain ⟨Φ, h1, h2⟩ := h
  exact (ns_rrecv h1 ⟨i, hi, rfl⟩).mono fun e w' hp => CG.call h2 hp
theorem CG.turn (h : CG w ks q r A A' s t w1) {c : Nat} (lost : Bool) (hc3 : 3 ≤ c) (hc : c ≤ maxLen) : Calls Try.prog 37 #[.bool lost, .slice A 3 c] w1 (CGP w ks q r A A' (turnS (nodesL q) s 3 lost) t (.tuple #[.int .i64 (turnV (nodesL q) s 3).1, (turnV (nodesL q) s 3).2.1.val, .bool (turnV (nodesL q) s 3).2.2])) := by
  obtain ⟨Φ, h1, h2⟩ := h
  exact (ns_turn (n := 3) h1 lost (nodesL_in q) rfl hc3 hc).mono fun e w' hp => CG.call h2 hp
theorem CG.put (h : CG w ks q r A A' s t w1) {c : Nat} (hc3 : 3 ≤ c) (hc : c ≤ maxLen) (f : Fr) (hf : f.wf) : Calls Try.prog 39 #[f.val, .slice A 3 c] w1 (CGP w ks q r A A' (putK (nodesL q) s f 3).1 t (.int .i64 (putK (nodesL q) s f 3).2)) := by
  obtain ⟨Φ, h1, h2⟩ := h
  exact (ns_put (n := 3) h1 (nodesL_in q) rfl hc3 hc f hf).mono fun e w' hp => CG.call h2 hp
theorem CG.first (h : CG w ks q r A A' s t w1) {c : Nat} (hc3 : 3 ≤ c) (hc : c ≤ maxLen) : Calls Try.prog 38 #[.slice A 3 c] w1 fun e w' => e = .returned (.tuple #[.int .i64 (fstK (nodesL q) s 3).1, (fstK (nodesL q) s 3).2.1.val, .bool (fstK (nodesL q) s 3).2.2]) ∧ Below w1.heap.size w1 w' := by
  obtain ⟨Φ, h1, h2⟩ := h
  exact ns_first (n := 3) h1 (nodesL_in q) rfl hc3 hc
theorem CG.wait (h : CG w ks q r A A' s t w1) {i : Nat} (hi : i < 3) : Calls Try.prog 21 #[.pointer (some ⟨q i, 0, none⟩)] w1 fun e w' => e = .returned (.int .i64 (s (q i)).tx.length) ∧ w1 = w' := by
  obtain ⟨Φ, h1, h2⟩ := h
  exact ns_wait h1 ⟨i, hi, rfl⟩
theorem CG.taken (h : CG w ks q r A A' s t w1) {i : Nat} (hi : i < 3) : Calls Try.prog 34 #[.pointer (some ⟨q i, 0, none⟩)] w1 fun e w' => e = .returned (.int .i64 (s (q i)).rx.length) ∧ w1 = w' := by
  obtain ⟨Φ, h1, h2⟩ := h
  exact ns_taken h1 ⟨i, hi, rfl⟩
theorem CG.txwf (h : CG w ks q r A A' s t w1) {i : Nat} (hi : i < 3) : (s (q i)).tx.length ≤ 3 ∧ ∀ x ∈ (s (q i)).tx, x.wf := by
  obtain ⟨Φ, h1, h2⟩ := h
  have := (h1.p (q i) ⟨i, hi, rfl⟩).2.1
  exact ⟨this.t3, this.tw⟩
theorem CG.blk (h : CG w ks q r A A' s t w1) {g : Nat} {ty : TypeId} {cs : Array Value} (hk : (g, ty, cs) ∈ ks) : Blk w1 g ty cs := by
  obtain ⟨Φ, h1, h2⟩ := h
  exact (h2 _ hk).1
theorem CG.bel (h : CG w ks q r A A' s t w1) : Below w.heap.size w w1 := by
  obtain ⟨Φ, h1, h2⟩ := h
  exact h1.bel
theorem CG.ad (h : CG w ks q r A A' s t w1) : ∃ g o, A = some ⟨g, o, none⟩ := by
  obtain ⟨Φ, h1, h2⟩ := h
  obtain ⟨g, o, e, -⟩ := h1.node (nodesL_get q (i := 0) (by decide))
  exact ⟨g, o, e⟩
theorem CG.nc {g o : Nat} (h : CG w ks q r (some ⟨g, o, none⟩) A' s t w1) {i : Nat} (hi : i < 3) : w1.cell? ⟨g, o + i, none⟩ = some (.pointer (some ⟨q i, 0, none⟩)) := by
  obtain ⟨Φ, h1, h2⟩ := h
  obtain ⟨g', o', e, hc⟩ := h1.node (nodesL_get q hi)
  simp only [Option.some.injEq, Addr.mk.injEq] at e
  obtain ⟨rfl, rfl, -⟩ := e
  exact hc _ (Below.refl _ _)
theorem CG.rad (h : CG w ks q r A A' s t w1) : ∃ g o, A' = some ⟨g, o, none⟩ := by
  obtain ⟨Φ, h1, h2⟩ := h
  obtain ⟨g, o, e, -⟩ := h1.rnode (nodesL_get r (i := 0) (by decide))
  exact ⟨g, o, e⟩
theorem CG.rnc {g o : Nat} (h : CG w ks q r A (some ⟨g, o, none⟩) s t w1) {i : Nat} (hi : i < 3) : w1.cell? ⟨g, o + i, none⟩ = some (.pointer (some ⟨r i, 0, none⟩)) := by
  obtain ⟨Φ, h1, h2⟩ := h
  obtain ⟨g', o', e, hc⟩ := h1.rnode (nodesL_get r hi)
  simp only [Option.some.injEq, Addr.mk.injEq] at e
  obtain ⟨rfl, rfl, -⟩ := e
  exact hc _ (Below.refl _ _)
end
end Go.Proofs.Ytbmkfjgodgmjnaa
