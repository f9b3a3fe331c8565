/- A world under a name; what its blocks hold, as rules. -/
import Derived.Test.YtegbffcimldjnaaApp
namespace Go.Proofs.Ytegbffcimldjnaa
open Go.RowKit
set_option linter.unusedVariables false
set_option linter.unusedSimpArgs false
theorem wp_named {P : Program} {c : Code} {Q : Exit → Act → World → Prop} {a : Act} {w : World} (h : ∀ W, W = w → c.wp P Q a W) : c.wp P Q a w := h w rfl
theorem blk1 {w W : World} {c1 : Array Value} {t1 : TypeId} (h : W = w.alloc (.cells c1 t1)) : Blk W w.heap.size t1 c1 ∧ Below w.heap.size w W := by
  subst h
  exact ⟨Blk.new _ _ _, (Below.refl _ _).alloc (Nat.le_refl _) _⟩
theorem blk2 {w W : World} {c1 c2 : Array Value} {t1 t2 : TypeId} (h : W = (w.alloc (.cells c1 t1)).alloc (.cells c2 t2)) : Blk W w.heap.size t1 c1 ∧ Blk W (w.heap.size + 1) t2 c2 ∧ Below w.heap.size w W := by
  subst h
  refine ⟨(Blk.new _ _ _).alloc _, ?_, ((Below.refl _ _).alloc (Nat.le_refl _) _).alloc (by simp) _⟩
  have := Blk.new (w.alloc (.cells c1 t1)) t2 c2
  simpa using this
/-- What a block holds, in every world that has come of W by growth alone: a rule for the walk. -/
theorem Blk.rule {W : World} {g : Nat} {t : TypeId} {cs : Array Value} (h : Blk W g t cs) : ∀ w', Below W.heap.size W w' → ∀ i, w'.cell? ⟨g, i, none⟩ = cs[i]? := fun w' hb => (h.below hb).cell
end Go.Proofs.Ytegbffcimldjnaa
