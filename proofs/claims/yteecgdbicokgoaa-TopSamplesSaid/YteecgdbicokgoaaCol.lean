/- Worlds whose blocks have owners: what a call may write is told by the owner. -/
import Derived.Test.YteecgdbicokgoaaTyp
namespace Go.Proofs.Yteecgdbicokgoaa
open Go.RowKit
set_option linter.unusedVariables false
set_option linter.unusedSimpArgs false
/-- Whose a block is. Nobody's: (0, 9). -/
abbrev Who := Nat → Nat × Nat
/-- Blocks that are still to be made are nobody's. -/
def Nu (Φ : Who) (w : World) : Prop := ∀ g, w.heap.size ≤ g → Φ g = (0, 9)
theorem Nu.more {Φ : Who} {w w' : World} (h : Nu Φ w) (hs : w.heap.size ≤ w'.heap.size) : Nu Φ w' := fun g hg => h g (by omega)
theorem Nu.below {Φ : Who} {w w' : World} (h : Nu Φ w) (hb : Below w.heap.size w w') : Nu Φ w' := h.more hb.size
theorem nu0 (w : World) : Nu (fun _ => (0, 9)) w := fun _ _ => rfl
/-- From (w, Φ) to (w', Φ'): of the blocks that were there only those from B on whose owner is of S may have been written, and none has another owner now. -/
def Ext (B : Nat) (S : Nat × Nat → Prop) (Φ Φ' : Who) (w w' : World) : Prop :=
  (∀ g, g < w.heap.size → Φ' g = Φ g) ∧ Nu Φ' w' ∧ Chg (fun i => B ≤ i ∧ S (Φ i)) w w'
section
variable {B : Nat} {S : Nat × Nat → Prop} {Φ Φ' Φ1 Φ2 : Who} {w w' w1 w2 : World}
theorem Ext.refl (h : Nu Φ w) : Ext B S Φ Φ w w := ⟨fun _ _ => rfl, h, Chg.refl _ _⟩
theorem Ext.of_below (h : Nu Φ w) (hb : Below w.heap.size w w') : Ext B S Φ Φ w w' := ⟨fun _ _ => rfl, h.below hb, Chg.of_below hb _⟩
theorem Ext.nu (h : Ext B S Φ Φ' w w') : Nu Φ' w' := h.2.1
theorem Ext.size (h : Ext B S Φ Φ' w w') : w.heap.size ≤ w'.heap.size := h.2.2.size
theorem Ext.trans (h : Ext B S Φ Φ1 w w1) (k : Ext B S Φ1 Φ2 w1 w2) : Ext B S Φ Φ2 w w2 :=
  ⟨fun g hg => (k.1 g (Nat.lt_of_lt_of_le hg h.size)).trans (h.1 g hg), k.2.1, h.2.2.trans k.2.2 fun i hi hx => ⟨hx.1, by rw [← h.1 i hi]; exact hx.2⟩⟩
theorem Ext.mono {B' : Nat} {S' : Nat × Nat → Prop} (h : Ext B S Φ Φ' w w') (hB : B' ≤ B) (hS : ∀ c, S c → S' c) : Ext B' S' Φ Φ' w w' :=
  ⟨h.1, h.2.1, h.2.2.mono fun i _ hx => ⟨by omega, hS _ hx.2⟩⟩
theorem Ext.grow (h : Ext B S Φ Φ1 w w1) (k : Below w1.heap.size w1 w2) : Ext B S Φ Φ1 w w2 := h.trans (Ext.of_below h.nu k)
theorem Ext.below (h : Ext B S Φ Φ' w w') (hB : B ≤ w.heap.size) : Below B w w' := Chg.below h.2.2 (fun i _ hi => hi.1) hB
theorem Ext.set_ (h : Ext B S Φ Φ' w w') {g o : Nat} (hB : B ≤ g) (hS : S (Φ' g)) (hg : g < w'.heap.size) (u : Value) : Ext B S Φ Φ' w (w'.setCell ⟨g, o, none⟩ u) :=
  h.trans ⟨fun _ _ => rfl, h.nu.more (by simp [World.setCell]), (Chg.refl _ _).at_ (q := g) ⟨hB, hS⟩ _ _⟩
theorem Ext.alloc (h : Ext B S Φ Φ' w w') (o : Obj) : Ext B S Φ Φ' w (w'.alloc o) := h.grow (bl1 _ _)
theorem Ext.drewN (h : Ext B S Φ Φ' w w') (n : Nat) : Ext B S Φ Φ' w (w'.drewN n) := h.grow (bel_drewN (Below.refl _ _) n)
/-- An append to a row that the owner may write. -/
theorem Ext.grown {A : Option Addr} (h : Ext B S Φ Φ' w w1) (hA : ∀ g, blkOf A = some g → B ≤ g ∧ S (Φ' g)) (hg : w1.grownBy w2 (blkOf A)) : Ext B S Φ Φ' w w2 :=
  h.trans ⟨fun _ _ => rfl, h.nu.more hg.size, (Chg.of_grown hg).mono fun i _ hi => hA i hi.symm⟩
theorem Blk.ext {g : Nat} {t : TypeId} {cs : Array Value} (h : Blk w g t cs) (he : Ext B S Φ Φ' w w') (hg : ¬ (B ≤ g ∧ S (Φ g))) : Blk w' g t cs := h.chg he.2.2 hg
theorem Own.ext {base : Nat} {e : TypeId} {size n c : Nat} {A : Option Addr} {xs : List Value} (h : Own w base e size A n c xs) (he : Ext B S Φ Φ' w w') (hg : ∀ g, blkOf A = some g → ¬ (B ≤ g ∧ S (Φ g))) : Own w' base e size A n c xs := h.chg he.2.2 hg
end
/-- A block, and whose it is. -/
def BlC (Φ : Who) (k : Nat × Nat) (w : World) (g : Nat) (t : TypeId) (cs : Array Value) : Prop := Blk w g t cs ∧ Φ g = k
/-- A row of the call's own, and whose it is. -/
def OwC (Φ : Who) (k : Nat × Nat) (w : World) (base : Nat) (e : TypeId) (size : Nat) (A : Option Addr) (n c : Nat) (xs : List Value) : Prop :=
  Own w base e size A n c xs ∧ ∀ g, blkOf A = some g → Φ g = k
section
variable {B : Nat} {S : Nat × Nat → Prop} {Φ Φ' : Who} {w w' : World} {k : Nat × Nat}
theorem BlC.ext {g : Nat} {t : TypeId} {cs : Array Value} (h : BlC Φ k w g t cs) (he : Ext B S Φ Φ' w w') (hk : ¬ S k) : BlC Φ' k w' g t cs :=
  ⟨h.1.ext he (fun hx => hk (by rw [← h.2]; exact hx.2)), (he.1 g h.1.lt).trans h.2⟩
theorem OwC.ext {base : Nat} {e : TypeId} {size n c : Nat} {A : Option Addr} {xs : List Value} (h : OwC Φ k w base e size A n c xs) (he : Ext B S Φ Φ' w w') (hk : ¬ S k) : OwC Φ' k w' base e size A n c xs :=
  ⟨h.1.ext he (fun g hg hx => hk (by rw [← h.2 g hg]; exact hx.2)), fun g hg => (he.1 g (h.1.lt hg).2).trans (h.2 g hg)⟩
theorem BlC.below {g : Nat} {t : TypeId} {cs : Array Value} (h : BlC Φ k w g t cs) (hb : Below w.heap.size w w') : BlC Φ k w' g t cs := ⟨h.1.below hb, h.2⟩
theorem OwC.below {base : Nat} {e : TypeId} {size n c : Nat} {A : Option Addr} {xs : List Value} (h : OwC Φ k w base e size A n c xs) (hb : Below w.heap.size w w') : OwC Φ k w' base e size A n c xs := ⟨h.1.below hb, h.2⟩
theorem OwC.nil (Φ : Who) (k : Nat × Nat) (w : World) (base : Nat) (e : TypeId) (size : Nat) : OwC Φ k w base e size none 0 0 [] := ⟨Own.nil _ _ _ _, fun g h => by simp [blkOf] at h⟩
/-- A row that was just made is nobody's. -/
theorem OwC.fresh {W : World} {base : Nat} {e : TypeId} {size n c : Nat} {A : Option Addr} {xs : List Value} (h : Own w base e size A n c xs) (hN : Nu Φ W) (hg : ∀ g, blkOf A = some g → W.heap.size ≤ g) : OwC Φ (0, 9) w base e size A n c xs := ⟨h, fun g hgb => hN g (hg g hgb)⟩
end
/-- The row's block is k's now. -/
def paint (Φ : Who) (A : Option Addr) (k : Nat × Nat) : Who := fun g => if blkOf A = some g then k else Φ g
theorem paint_at {Φ : Who} {A : Option Addr} {k : Nat × Nat} {g : Nat} (h : blkOf A = some g) : paint Φ A k g = k := if_pos h
theorem paint_ne {Φ : Who} {A : Option Addr} {k : Nat × Nat} {g : Nat} (h : blkOf A ≠ some g) : paint Φ A k g = Φ g := if_neg h
section
variable {B : Nat} {S : Nat × Nat → Prop} {Φ Φ' : Who} {w w' : World} {k k2 : Nat × Nat} {A : Option Addr}
theorem Ext.paint (h : Ext B S Φ Φ' w w') (hA : ∀ g, blkOf A = some g → g < w'.heap.size ∧ (g < w.heap.size → Φ' g = k)) : Ext B S Φ (paint Φ' A k) w w' := by
  refine ⟨fun g hg => ?_, fun g hg => ?_, h.2.2⟩
  · by_cases hb : blkOf A = some g
    · rw [paint_at hb, ← h.1 g hg, (hA g hb).2 hg]
    · rw [paint_ne hb, h.1 g hg]
  · rw [paint_ne (fun hb => by have := (hA g hb).1; omega), h.2.1 g hg]
theorem OwC.paint_self {base : Nat} {e : TypeId} {size n c : Nat} {xs : List Value} (h : Own w base e size A n c xs) : OwC (paint Φ A k) k w base e size A n c xs := ⟨h, fun g hg => paint_at hg⟩
theorem OwC.paint {base : Nat} {e : TypeId} {size n c : Nat} {A2 : Option Addr} {xs : List Value} (h : OwC Φ k2 w base e size A2 n c xs) (hA : ∀ g, blkOf A = some g → blkOf A2 ≠ some g) : OwC (paint Φ A k) k2 w base e size A2 n c xs :=
  ⟨h.1, fun g hg => (paint_ne (fun hb => hA g hb hg)).trans (h.2 g hg)⟩
theorem BlC.paint {g : Nat} {t : TypeId} {cs : Array Value} (h : BlC Φ k2 w g t cs) (hA : blkOf A ≠ some g) : BlC (paint Φ A k) k2 w g t cs := ⟨h.1, (paint_ne hA).trans h.2⟩
end
end Go.Proofs.Yteecgdbicokgoaa
