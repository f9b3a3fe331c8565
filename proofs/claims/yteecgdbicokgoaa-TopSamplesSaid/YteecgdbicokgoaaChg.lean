/- Worlds in which only some blocks were written. -/
import Derived.Test.YteecgdbicokgoaaKit
namespace Go.Proofs.Yteecgdbicokgoaa
open Go.RowKit
set_option linter.unusedVariables false
set_option linter.unusedSimpArgs false
/-- Of the blocks that were there only those of F may have been written. -/
structure Chg (F : Nat → Prop) (w w' : World) : Prop where
  os : w'.os = w.os
  tape : w'.tape = w.tape
  output : w'.output = w.output
  size : w.heap.size ≤ w'.heap.size
  block : ∀ k, k < w.heap.size → ¬ F k → w'.heap[k]? = w.heap[k]?
section
variable {F G : Nat → Prop} {a b c w w' : World}
theorem Chg.refl (F : Nat → Prop) (w : World) : Chg F w w := ⟨rfl, rfl, rfl, Nat.le_refl _, fun _ _ _ => rfl⟩
theorem Chg.trans (h : Chg F a b) (k : Chg G b c) (hg : ∀ i, i < a.heap.size → G i → F i) : Chg F a c :=
  ⟨k.os.trans h.os, k.tape.trans h.tape, k.output.trans h.output, Nat.le_trans h.size k.size, fun i hi hf => (k.block i (Nat.lt_of_lt_of_le hi h.size) (fun hgi => hf (hg i hi hgi))).trans (h.block i hi hf)⟩
theorem Chg.mono (h : Chg F w w') (hg : ∀ i, i < w.heap.size → F i → G i) : Chg G w w' := ⟨h.os, h.tape, h.output, h.size, fun i hi hf => h.block i hi (fun hh => hf (hg i hi hh))⟩
theorem Chg.of_below (h : Below w.heap.size w w') (F : Nat → Prop) : Chg F w w' := ⟨h.os, h.tape, h.output, h.size, fun i hi _ => h.block i hi⟩
theorem Chg.of_grown {row : Option Nat} (h : w.grownBy w' row) : Chg (fun i => some i = row) w w' := ⟨h.os, h.tape, h.output, h.size, fun i hi hf => h.block i hi hf⟩
theorem Chg.grow (h : Chg F a b) (k : Below b.heap.size b c) : Chg F a c := h.trans (Chg.of_below k (fun _ => False)) (fun _ _ h => h.elim)
theorem Chg.alloc (h : Chg F w w') (o : Obj) : Chg F w (w'.alloc o) := h.grow ((Below.refl _ _).alloc (Nat.le_refl _) _)
theorem Chg.drew (h : Chg F w w') : Chg F w w'.drew := ⟨h.os, h.tape, h.output, h.size, h.block⟩
theorem Chg.drewN (h : Chg F w w') (n : Nat) : Chg F w (w'.drewN n) := h.grow (bel_drewN (Below.refl _ _) n)
theorem Chg.set_ (h : Chg F w w') {p : Addr} (hp : p.block < w.heap.size → F p.block) (u : Value) : Chg F w (w'.setCell p u) :=
  ⟨h.os, h.tape, h.output, Nat.le_trans h.size (by simp [World.setCell]), fun k hk hf => (Below.heap_setCell w' p u k (fun e => hf (by subst e; exact hp hk))).trans (h.block k hk hf)⟩
theorem Chg.at_ {q : Nat} (h : Chg F w w') (hq : F q) (o : Nat) (u : Value) : Chg F w (w'.setCell ⟨q, o, none⟩ u) := h.set_ (p := ⟨q, o, none⟩) (fun _ => hq) u
theorem Chg.below {B : Nat} (h : Chg F w w') (hB : ∀ i, i < w.heap.size → F i → B ≤ i) (hs : B ≤ w.heap.size) : Below B w w' :=
  ⟨h.os, h.tape, h.output, h.size, fun k hk => h.block k (by omega) (fun hf => by have := hB k (by omega) hf; omega)⟩
theorem Blk.chg {g : Nat} {t : TypeId} {cs : Array Value} (h : Blk w g t cs) (hc : Chg F w w') (hg : ¬ F g) : Blk w' g t cs := (hc.block g h.lt hg).trans h
theorem Own.chg {base : Nat} {e : TypeId} {size : Nat} {A : Option Addr} {n c : Nat} {xs : List Value} (h : Own w base e size A n c xs) (hc : Chg F w w') (hg : ∀ g, blkOf A = some g → ¬ F g) : Own w' base e size A n c xs :=
  h.kept fun g hgb => hc.block g (h.lt hgb).2 (hg g hgb)
theorem Rd.chg {B : Nat} {A : Option Addr} {vs : List Value} (h : Rd w B A vs) (hB : B ≤ w.heap.size) (hc : Chg F w w') (hg : ∀ g, blkOf A = some g → ¬ F g) : Rd w' B A vs := fun hn => by
  obtain ⟨b, o, e, hb, hcell⟩ := h hn
  refine ⟨b, o, e, hb, fun i u hu => ?_⟩
  rw [← hcell i u hu]
  exact World.cell?_of_block (a := ⟨b, o + i, none⟩) (hc.block b (by omega) (hg b (by rw [e]; rfl)))
end
/-- A row's block is of its element's type: no block of another type is it. -/
theorem Own.ne_blk {w : World} {base : Nat} {e : TypeId} {size n c : Nat} {A : Option Addr} {xs : List Value} (h : Own w base e size A n c xs) {g q : Nat} {t : TypeId} {cs : Array Value} (hg : blkOf A = some g) (hq : Blk w q t cs) (hne : e ≠ t) : g ≠ q := by
  intro he
  subst he
  exact own_blk_ne h hq hne hg.symm
theorem own_own_ne {w : World} {b1 b2 : Nat} {e1 e2 : TypeId} {s1 s2 n1 n2 c1 c2 : Nat} {A1 A2 : Option Addr} {xs ys : List Value} (h1 : Own w b1 e1 s1 A1 n1 c1 xs) (h2 : Own w b2 e2 s2 A2 n2 c2 ys) (hne : e1 ≠ e2) : blkOf A1 = none ∨ blkOf A1 ≠ blkOf A2 := by
  cases A1 with
  | none => exact .inl rfl
  | some a =>
    right
    intro hh
    obtain ⟨g, off, cur, rfl, _, hc, _⟩ := h1.2.2.2.2 a rfl
    cases A2 with
    | none => simp [blkOf] at hh
    | some a2 =>
      obtain ⟨g2, off2, cur2, rfl, _, hc2, _⟩ := h2.2.2.2.2 a2 rfl
      simp [blkOf] at hh
      subst hh
      rw [hc] at hc2
      injection hc2 with hc2
      injection hc2 with _ ht
      exact hne ht
theorem Own.at_ {w : World} {base : Nat} {e : TypeId} {size : Nat} {A : Option Addr} {n c : Nat} {xs : List Value} (h : Own w base e size A n c xs) (hn : 0 < n) : ∃ g o, A = some ⟨g, o, none⟩ := by
  cases A with
  | none => have h1 := h.2.2.2.1 rfl; have h2 := h.2.1; omega
  | some a => obtain ⟨g, off, cur, rfl, -⟩ := h.2.2.2.2 a rfl; exact ⟨g, off, rfl⟩
end Go.Proofs.Yteecgdbicokgoaa
