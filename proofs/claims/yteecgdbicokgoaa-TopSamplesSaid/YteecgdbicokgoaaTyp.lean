/- Worlds in which only young blocks of some types were written; bytes that stand through such. -/
import Derived.Test.YteecgdbicokgoaaChg
namespace Go.Proofs.Yteecgdbicokgoaa
open Go.RowKit
set_option linter.unusedVariables false
set_option linter.unusedSimpArgs false
theorem blk_ty {w : World} {g : Nat} {t t' : TypeId} {cs cs' : Array Value} (h : Blk w g t cs) (h' : Blk w g t' cs') : t = t' := by
  unfold Blk at h h'
  rw [h] at h'
  injection h' with h'
  injection h' with _ h'
theorem blk_cs {w : World} {g : Nat} {t t' : TypeId} {cs cs' : Array Value} (h : Blk w g t cs) (h' : Blk w g t' cs') : cs = cs' := by
  unfold Blk at h h'
  rw [h] at h'
  injection h' with h'
  injection h' with h' _
theorem calls_named {P : Program} {f : Nat} {args : Array Value} {w : World} {R : Ending → World → Prop} (h : ∀ W, W = w → Calls P f args W R) : Calls P f args w R := h w rfl
theorem bl1 (W : World) (o : Obj) : Below W.heap.size W (W.alloc o) := (Below.refl _ _).alloc (Nat.le_refl _) _
theorem bl2 (W : World) (o o' : Obj) : Below W.heap.size W ((W.alloc o).alloc o') := (bl1 W o).alloc (by simp) _
theorem bl1d (W : World) (o : Obj) : Below W.heap.size W (W.alloc o).drew := (bl1 W o).drew
theorem bl2d (W : World) (o o' : Obj) : Below W.heap.size W ((W.alloc o).alloc o').drew := (bl2 W o o').drew
theorem Blk.rd {w : World} {g : Nat} {t : TypeId} {cs : List Value} (h : Blk w g t cs.toArray) : Rd w w.heap.size (some ⟨g, 0, none⟩) cs := fun _ => ⟨g, 0, rfl, h.lt, fun i u hu => by rw [h.cell, Nat.zero_add]; simpa using hu⟩
theorem bel_grown' {w0 w w' : World} {B : Nat} {A : Option Addr} {e : TypeId} {size n c : Nat} {xs : List Value} (h : Below B w0 w) (hB : B ≤ w.heap.size) (ho : Own w B e size A n c xs) (hg : w.grownBy w' (blkOf A)) : Below B w0 w' :=
  h.grown hg hB (fun k hk => (ho.lt hk).1)
/-- Of the blocks that were there only those from B on, of the types ts, may have been written. -/
def ChT (B : Nat) (ts : List TypeId) (w w' : World) : Prop := Chg (fun i => B ≤ i ∧ ∃ t cs, Blk w i t cs ∧ t ∈ ts) w w'
section
variable {B : Nat} {ts : List TypeId} {a b c w w' : World}
theorem ChT.refl (B : Nat) (ts : List TypeId) (w : World) : ChT B ts w w := Chg.refl _ _
theorem ChT.of_below (h : Below w.heap.size w w') (B : Nat) (ts : List TypeId) : ChT B ts w w' := Chg.of_below h _
theorem ChT.size (h : ChT B ts w w') : w.heap.size ≤ w'.heap.size := Chg.size h
theorem ChT.trans (h : ChT B ts a b) (k : ChT B ts b c) : ChT B ts a c := by
  refine Chg.trans h k fun i hi hg => ?_
  obtain ⟨h1, t, cs, h2, h3⟩ := hg
  refine Classical.byContradiction fun hn => hn ⟨h1, t, cs, ?_, h3⟩
  have := Chg.block h i hi hn
  unfold Blk at h2 ⊢
  rw [← this]
  exact h2
theorem ChT.grow (h : ChT B ts a b) (k : Below b.heap.size b c) : ChT B ts a c := h.trans (ChT.of_below k _ _)
theorem ChT.mono {B' : Nat} {ts' : List TypeId} (h : ChT B ts w w') (hB : B' ≤ B) (ht : ∀ t ∈ ts, t ∈ ts') : ChT B' ts' w w' :=
  Chg.mono h fun i _ hi => ⟨by omega, hi.2.elim fun t ⟨cs, h1, h2⟩ => ⟨t, cs, h1, ht t h2⟩⟩
theorem ChT.below (h : ChT B ts w w') (hB : B ≤ w.heap.size) : Below B w w' := Chg.below h (fun i _ hi => hi.1) hB
theorem ChT.set_ (h : ChT B ts w w') {g o : Nat} {t : TypeId} {cs : Array Value} (hb : Blk w' g t cs) (ht : t ∈ ts) (hB : B ≤ g) (u : Value) : ChT B ts w (w'.setCell ⟨g, o, none⟩ u) := by
  refine h.trans ?_
  exact (Chg.refl _ _).at_ (q := g) ⟨hB, t, cs, hb, ht⟩ _ _
theorem ChT.drewN (h : ChT B ts w w') (n : Nat) : ChT B ts w (w'.drewN n) := h.grow (bel_drewN (Below.refl _ _) n)
theorem ChT.alloc (h : ChT B ts w w') (o : Obj) : ChT B ts w (w'.alloc o) := h.grow (bl1 _ _)
theorem Blk.chT {g : Nat} {t : TypeId} {cs : Array Value} (h : Blk w g t cs) (hc : ChT B ts w w') (ht : t ∉ ts) : Blk w' g t cs :=
  h.chg hc fun hg => by
    obtain ⟨_, t', cs', h1, h2⟩ := hg
    rw [blk_ty h h1] at ht
    exact ht h2
theorem Blk.old {g : Nat} {t : TypeId} {cs : Array Value} (h : Blk w g t cs) (hc : ChT B ts w w') (hg : g < B) : Blk w' g t cs := h.chg hc fun h => by omega
theorem Own.row {base : Nat} {e : TypeId} {size n k : Nat} {A : Option Addr} {xs : List Value} (h : Own w base e size A n k xs) {g : Nat} (hg : blkOf A = some g) : ∃ cs, Blk w g e cs := by
  obtain ⟨a0, ha0, rfl⟩ := Option.map_eq_some_iff.1 hg
  obtain ⟨g', off, cur, rfl, _, hh, _⟩ := h.2.2.2.2 a0 ha0
  exact ⟨cur, hh⟩
theorem Own.chT {base : Nat} {e : TypeId} {size n k : Nat} {A : Option Addr} {xs : List Value} (h : Own w base e size A n k xs) (hc : ChT B ts w w') (ht : e ∉ ts) : Own w' base e size A n k xs :=
  h.chg hc fun g hg hx => by
    obtain ⟨cs, hcs⟩ := h.row hg
    obtain ⟨_, t', cs', h1, h2⟩ := hx
    rw [blk_ty hcs h1] at ht
    exact ht h2
end
/-- Cells that read so, in a block that is older than B, or of the type e. -/
def By (B : Nat) (e : TypeId) (w : World) (A : Option Addr) (vs : List Value) : Prop :=
  vs ≠ [] → ∃ b o, A = some ⟨b, o, none⟩ ∧ b < w.heap.size ∧ (b < B ∨ ∃ cs, Blk w b e cs) ∧ ∀ i u, vs[i]? = some u → w.cell? ⟨b, o + i, none⟩ = some u
section
variable {B : Nat} {e : TypeId} {w w' : World} {A : Option Addr} {vs : List Value}
theorem By.nil : By B e w A [] := fun h => absurd rfl h
theorem By.rd (h : By B e w A vs) : Rd w w.heap.size A vs := fun hn => by
  obtain ⟨b, o, h1, h2, _, h3⟩ := h hn
  exact ⟨b, o, h1, h2, h3⟩
theorem By.of_rd (h : Rd w B A vs) (hB : B ≤ w.heap.size) : By B e w A vs := fun hn => by
  obtain ⟨b, o, h1, h2, h3⟩ := h hn
  exact ⟨b, o, h1, by omega, .inl h2, h3⟩
theorem By.of_own {base n c : Nat} {size : Nat} (h : Own w base e size A n c vs) : By B e w A vs := fun hn => by
  obtain ⟨b, o, h1, h2, h3⟩ := h.rd hn
  refine ⟨b, o, h1, h2, .inr (h.row (by rw [h1]; rfl)), h3⟩
theorem By.chT {ts : List TypeId} (h : By B e w A vs) (hc : ChT B ts w w') (ht : e ∉ ts) : By B e w' A vs := fun hn => by
  obtain ⟨b, o, h1, h2, h3, h4⟩ := h hn
  have hs := hc.size
  have hnf : ¬ (B ≤ b ∧ ∃ t cs, Blk w b t cs ∧ t ∈ ts) := fun hx => by
    obtain ⟨hx1, t, cs, hx2, hx3⟩ := hx
    rcases h3 with h3 | ⟨cs', h3⟩
    · omega
    · rw [blk_ty h3 hx2] at ht
      exact ht hx3
  have hb := Chg.block hc b h2 hnf
  refine ⟨b, o, h1, by omega, ?_, fun i u hu => ?_⟩
  · rcases h3 with h3 | ⟨cs', h3⟩
    · exact .inl h3
    · exact .inr ⟨cs', hb.trans h3⟩
  · rw [← h4 i u hu]
    exact World.cell?_of_block (a := ⟨b, o + i, none⟩) hb
theorem By.below (h : By B e w A vs) (hb : Below w.heap.size w w') : By B e w' A vs := h.chT (ts := []) (ChT.of_below hb _ _) (by simp)
theorem By.take (h : By B e w A vs) (k : Nat) : By B e w A (vs.take k) := fun hn => by
  obtain ⟨b, o, h1, h2, h3, h4⟩ := h (fun e => hn (by rw [e]; simp))
  refine ⟨b, o, h1, h2, h3, fun i u hu => h4 i u ?_⟩
  rw [List.getElem?_take] at hu
  split at hu
  · exact hu
  · cases hu
theorem By.drop {b o : Nat} (h : By B e w (some ⟨b, o, none⟩) vs) (k : Nat) : By B e w (some ⟨b, o + k, none⟩) (vs.drop k) := fun hn => by
  obtain ⟨b', o', h1, h2, h3, h4⟩ := h (fun e => hn (by rw [e]; simp))
  simp only [Option.some.injEq, Addr.mk.injEq, and_true] at h1
  obtain ⟨rfl, rfl⟩ := h1
  refine ⟨b, o + k, rfl, h2, h3, fun i u hu => ?_⟩
  rw [List.getElem?_drop] at hu
  rw [Nat.add_assoc]
  exact h4 _ u hu
theorem By.mono {B' : Nat} (h : By B e w A vs) (hB : B ≤ B') : By B' e w A vs := fun hn => by
  obtain ⟨b, o, h1, h2, h3, h4⟩ := h hn
  exact ⟨b, o, h1, h2, h3.imp (fun h => by omega) id, h4⟩
end
theorem By.of_blk {B : Nat} {e : TypeId} {w : World} {g : Nat} {cs : List Value} (h : Blk w g e cs.toArray) : By B e w (some ⟨g, 0, none⟩) cs := fun _ =>
  ⟨g, 0, rfl, h.lt, .inr ⟨_, h⟩, fun i u hu => by rw [h.cell, Nat.zero_add]; simpa using hu⟩
theorem Rd.take' {w : World} {B : Nat} {A : Option Addr} {xs : List Int} (h : Rd w B A (u8s xs)) (k : Nat) : Rd w B A (u8s (xs.take k)) := by
  have := h.take k
  rwa [← List.map_take] at this
end Go.Proofs.Yteecgdbicokgoaa
