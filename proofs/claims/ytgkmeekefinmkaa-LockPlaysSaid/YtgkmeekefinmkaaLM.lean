/- Bytes of a constant, marked; a region's condition made stronger on the way. -/
import Derived.Test.YtgkmeekefinmkaaLP
import Derived.Lib.SlBytesConst
namespace Go.Proofs.Ytgkmeekefinmkaa
open Go.RowKit
set_option linter.unusedVariables false
set_option linter.unusedSimpArgs false
theorem freeze_chg (W : World) (g k : Nat) : Chg (fun i => i = g) W (W.freeze ⟨g, k, none⟩ 1) := by
  unfold World.freeze
  rw [if_neg (by decide)]
  exact ⟨rfl, rfl, rfl, by simp, fun i hi hn => by simp only [Array.getElem?_modify]; rw [if_neg (fun e => hn e.symm)]⟩
theorem freeze_blk {W : World} {g : Nat} {t : TypeId} {C : Array Value} (h : Blk W g t C) (k : Nat) : (W.freeze ⟨g, k, none⟩ 1).heap[g]? = some (.cells C t (k, k + 1)) := by
  unfold Blk at h
  unfold World.freeze
  rw [if_neg (by decide)]
  simp [Array.getElem?_modify, h]
theorem conv_mark {W : World} {g : Nat} {C : Array Value} (h : Blk W g 5 C) (n c : Nat) :
    (convert 22 22 (.slice (some ⟨g, 0, none⟩) n c)).run Try.prog W = .ok (.slice (some ⟨g, 0, none⟩) n c) (W.freeze ⟨g, C.size, none⟩ 1) := by
  have hsh : W.shape? g = some (5, C.size) := by
    unfold Blk at h
    unfold World.shape?
    rw [h]
  simp [convert, run_underlying Try.underlying22, run_underlying Try.underlying5, markStringish, hsh]
theorem freeze_rd {W : World} {g : Nat} {t : TypeId} {C : List Value} (h : Blk W g t C.toArray) (k : Nat) : Rd (W.freeze ⟨g, k, none⟩ 1) (W.freeze ⟨g, k, none⟩ 1).heap.size (some ⟨g, 0, none⟩) C := fun _ => by
  have hb := freeze_blk h k
  refine ⟨g, 0, rfl, ?_, fun i u hu => ?_⟩
  · rcases Nat.lt_or_ge g (W.freeze ⟨g, k, none⟩ 1).heap.size with hlt | hge
    · exact hlt
    · rw [Array.getElem?_eq_none hge] at hb; cases hb
  · rw [cell_of_row _ g _ _ t _ hb, Nat.zero_add]
    simpa using hu
section
variable {P : Program} {ops : Array Oper} {Q : Exit → Act → World → Prop} {md : Region.Mode} {S S' : World → Prop}
theorem wpAnyH_imp (h : ∀ w, S' w → S w) : ∀ (fuel : Nat) (listed : Array Bool) (a : Act) (w : World), wpAnyH P md ops Q S' fuel listed a w → wpAnyH P md ops Q S fuel listed a w
  | 0, _, _, _, hh => hh
  | n + 1, listed, a, w, hh => ⟨hh.1, fun i hi => wpOp_mono (fun a w hx => ⟨h w hx.1, wpAnyH_imp h n _ a w hx.2⟩) (hh.2 i hi)⟩
end
end Go.Proofs.Ytgkmeekefinmkaa
