/- Memory: plain, and as it lies. -/
import Derived.Test.YteecgdbicokgoaaTyp
import Derived.Test.YteecgdbicokgoaaCpy
import Derived.Test.YteecgdbicokgoaaMak
namespace Go.Proofs.Yteecgdbicokgoaa
open Go.RowKit
set_option linter.unusedVariables false
set_option linter.unusedSimpArgs false
/-- Of the blocks that were there only those of [L, T), and those from B on of the types ts, may have been written. -/
def ChR (B : Nat) (ts : List TypeId) (L T : Nat) (w w' : World) : Prop := Chg (fun i => B ≤ i ∧ ((L ≤ i ∧ i < T) ∨ ∃ t cs, Blk w i t cs ∧ t ∈ ts)) w w'
section
variable {B L T : Nat} {ts : List TypeId} {a b c w w' : World}
theorem ChR.refl (B : Nat) (ts : List TypeId) (L T : Nat) (w : World) : ChR B ts L T w w := Chg.refl _ _
theorem ChR.of_below (h : Below w.heap.size w w') (B : Nat) (ts : List TypeId) (L T : Nat) : ChR B ts L T w w' := Chg.of_below h _
theorem ChR.of_chT (h : ChT B ts w w') (L T : Nat) : ChR B ts L T w w' := Chg.mono h fun i _ hi => ⟨hi.1, .inr hi.2⟩
theorem ChR.size (h : ChR B ts L T w w') : w.heap.size ≤ w'.heap.size := Chg.size h
theorem ChR.trans (h : ChR B ts L T a b) (k : ChR B ts L T b c) : ChR B ts L T a c := by
  refine Chg.trans h k fun i hi hg => ?_
  obtain ⟨h1, h2 | ⟨t, cs, h2, h3⟩⟩ := hg
  · exact ⟨h1, .inl h2⟩
  · refine Classical.byContradiction fun hn => hn ⟨h1, .inr ⟨t, cs, ?_, h3⟩⟩
    have := Chg.block h i hi hn
    unfold Blk at h2 ⊢
    rw [← this]
    exact h2
theorem ChR.grow (h : ChR B ts L T a b) (k : Below b.heap.size b c) : ChR B ts L T a c := h.trans (ChR.of_below k _ _ _ _)
theorem ChR.mono {B' : Nat} {ts' : List TypeId} (h : ChR B ts L T w w') (hB : B' ≤ B) (ht : ∀ t ∈ ts, t ∈ ts') : ChR B' ts' L T w w' :=
  Chg.mono h fun i _ hi => ⟨by omega, hi.2.imp id fun ⟨t, cs, h1, h2⟩ => ⟨t, cs, h1, ht t h2⟩⟩
theorem ChR.below (h : ChR B ts L T w w') (hB : B ≤ w.heap.size) : Below B w w' := Chg.below h (fun i _ hi => hi.1) hB
theorem ChR.grown {g : Nat} (hg : w.grownBy w' (some g)) (hB : B ≤ g) (h : (L ≤ g ∧ g < T) ∨ ∃ t cs, Blk w g t cs ∧ t ∈ ts) : ChR B ts L T w w' :=
  (Chg.of_grown hg).mono fun i _ hi => by injection hi with hi; subst hi; exact ⟨hB, h⟩
theorem Blk.chR {g : Nat} {t : TypeId} {cs : Array Value} (h : Blk w g t cs) (hc : ChR B ts L T w w') (ht : t ∉ ts) (hg : ¬ (L ≤ g ∧ g < T)) : Blk w' g t cs :=
  h.chg hc fun hx => by
    obtain ⟨_, h1 | ⟨t', cs', h1, h2⟩⟩ := hx
    · exact hg h1
    · rw [blk_ty h h1] at ht
      exact ht h2
theorem Own.chR {base : Nat} {e : TypeId} {size n k : Nat} {A : Option Addr} {xs : List Value} (h : Own w base e size A n k xs) (hc : ChR B ts L T w w') (ht : e ∉ ts) (hg : ∀ g, blkOf A = some g → ¬ (L ≤ g ∧ g < T)) : Own w' base e size A n k xs :=
  h.chg hc fun g hgb hx => by
    obtain ⟨cs, hcs⟩ := h.row hgb
    obtain ⟨_, h1 | ⟨t', cs', h1, h2⟩⟩ := hx
    · exact hg g hgb h1
    · rw [blk_ty hcs h1] at ht
      exact ht h2
theorem Own.chR' {base : Nat} {e : TypeId} {size n k : Nat} {A : Option Addr} {xs : List Value} (h : Own w base e size A n k xs) (hc : ChR B ts L T w w') (ht : e ∉ ts) (hb : T ≤ base) : Own w' base e size A n k xs :=
  h.chR hc ht fun g hg hx => by have := (h.lt hg).1; omega
end
/-- A segment of two pages of 16 bytes. -/
structure Sg where
  p0 : List Int
  p1 : List Int
  a : Nat
  x : Nat
/-- Memory of 64 plain bytes, and a segment, or none. -/
structure Mx where
  ram : List Int
  seg : Option Sg
structure Sg.ok (S : Sg) : Prop where
  l0 : S.p0.length = 16
  l1 : S.p1.length = 16
  a1 : S.a ≤ 1
  x1 : S.x ≤ 1
structure Mx.ok (M : Mx) : Prop where
  lr : M.ram.length = 64
  sg : ∀ S, M.seg = some S → S.ok
/-- A segment as it lies. -/
def SgAt (w : World) (L T : Nat) (As : Option Addr) (ns cs : Nat) (gr : Nat) : Option Sg → Prop
  | none => As = none ∧ ns = 0 ∧ cs = 0
  | some S => ns = 1 ∧ ∃ gs Ap cp g0 g1, Own w L 110 1 As 1 cs [.pointer (some ⟨gs, 0, none⟩)] ∧ (∀ g, blkOf As = some g → g < T) ∧ (L ≤ gs ∧ gs < T) ∧ Blk w gs 114 #[.slice Ap 2 cp, .int .i64 S.a, .int .i64 S.x] ∧
      Own w L 22 1 Ap 2 cp [.slice (some ⟨g0, 0, none⟩) 16 16, .slice (some ⟨g1, 0, none⟩) 16 16] ∧ (∀ g, blkOf Ap = some g → g < T) ∧
      (L ≤ g0 ∧ g0 < T) ∧ Blk w g0 5 (u8s S.p0).toArray ∧ (L ≤ g1 ∧ g1 < T) ∧ Blk w g1 5 (u8s S.p1).toArray ∧ gr ≠ g0 ∧ gr ≠ g1 ∧ g0 ≠ g1
/-- Memory as it lies, all of it in [L, T). -/
structure MAc (w : World) (L T m : Nat) (M : Mx) (gr : Nat) (As : Option Addr) (ns cs : Nat) : Prop where
  ok : M.ok
  tz : T ≤ w.heap.size
  mb : L ≤ m ∧ m < T
  b : Blk w m 125 #[.slice (some ⟨gr, 0, none⟩) 64 64, .slice As ns cs]
  r : L ≤ gr ∧ gr < T
  ram : Blk w gr 5 (u8s M.ram).toArray
  sg : SgAt w L T As ns cs gr M.seg
def MAt (w : World) (L T m : Nat) (M : Mx) : Prop := ∃ gr As ns cs, MAc w L T m M gr As ns cs
section
variable {w w' : World} {L T m : Nat} {M : Mx}
/-- All blocks of [L, T) are as they were. -/
theorem SgAt.kept {As : Option Addr} {ns cs gr : Nat} {s : Option Sg} (h : SgAt w L T As ns cs gr s) (hk : ∀ g, L ≤ g → g < T → w'.heap[g]? = w.heap[g]?) : SgAt w' L T As ns cs gr s := by
  cases s with
  | none => exact h
  | some S =>
    obtain ⟨h0, gs, Ap, cp, g0, g1, h1, h2, h3, h4, h5, h6, h7, h8, h9, h10, h11⟩ := h
    have kb : ∀ {g : Nat} {t : TypeId} {cs : Array Value}, Blk w g t cs → L ≤ g ∧ g < T → Blk w' g t cs := fun hB hg => (hk _ hg.1 hg.2).trans hB
    exact ⟨h0, gs, Ap, cp, g0, g1, h1.kept fun g hg => hk g (h1.lt hg).1 (h2 g hg), h2, h3, kb h4 h3, h5.kept fun g hg => hk g (h5.lt hg).1 (h6 g hg), h6, h7, kb h8 h7, h9, kb h10 h9, h11⟩
theorem MAt.kept (h : MAt w L T m M) (hs : w.heap.size ≤ w'.heap.size) (hk : ∀ g, L ≤ g → g < T → w'.heap[g]? = w.heap[g]?) : MAt w' L T m M := by
  obtain ⟨gr, As, ns, cs, h⟩ := h
  have kb : ∀ {g : Nat} {t : TypeId} {cs : Array Value}, Blk w g t cs → L ≤ g ∧ g < T → Blk w' g t cs := fun hB hg => (hk _ hg.1 hg.2).trans hB
  exact ⟨gr, As, ns, cs, h.ok, Nat.le_trans h.tz hs, h.mb, kb h.b h.mb, h.r, kb h.ram h.r, h.sg.kept hk⟩
theorem MAt.tz (h : MAt w L T m M) : T ≤ w.heap.size := by obtain ⟨gr, As, ns, cs, h⟩ := h; exact h.tz
theorem MAt.ok (h : MAt w L T m M) : M.ok := by obtain ⟨gr, As, ns, cs, h⟩ := h; exact h.ok
theorem MAt.below (h : MAt w L T m M) (hb : Below w.heap.size w w') : MAt w' L T m M :=
  h.kept hb.size fun g _ hg => hb.block g (by have := h.tz; omega)
/-- Another memory was written. -/
theorem MAt.other {B L' T' : Nat} {ts : List TypeId} (h : MAt w L T m M) (hc : ChR B ts L' T' w w') (hd : T ≤ L' ∨ T' ≤ L) (h1 : 125 ∉ ts) (h2 : 5 ∉ ts) (h3 : 110 ∉ ts) (h4 : 114 ∉ ts) (h5 : 22 ∉ ts) : MAt w' L T m M := by
  obtain ⟨gr, As, ns, cs, h⟩ := h
  have kb : ∀ {g : Nat} {t : TypeId} {cs : Array Value}, Blk w g t cs → L ≤ g ∧ g < T → t ∉ ts → Blk w' g t cs := fun hB hg ht => hB.chR hc ht (by omega)
  refine ⟨gr, As, ns, cs, h.ok, Nat.le_trans h.tz hc.size, h.mb, kb h.b h.mb h1, h.r, kb h.ram h.r h2, ?_⟩
  have hs := h.sg
  cases hS : M.seg with
  | none => rw [hS] at hs; exact hs
  | some S =>
    rw [hS] at hs
    obtain ⟨h0, gs, Ap, cp, g0, g1, q1, q2, q3, q4, q5, q6, q7, q8, q9, q10, q11⟩ := hs
    exact ⟨h0, gs, Ap, cp, g0, g1, q1.chR hc h3 (fun g hg hx => by have := (q1.lt hg).1; have := q2 g hg; omega), q2, q3, kb q4 q3 h4, q5.chR hc h5 (fun g hg hx => by have := (q5.lt hg).1; have := q6 g hg; omega), q6, q7, kb q8 q7 h2, q9, kb q10 q9 h2, q11⟩
end
/-- Which bytes somebody sees (0: plain ones; 1, 2: a page). -/
def rowI (M : Mx) (who area : Int) : Option Nat :=
  if area = 0 then some 0 else if area = 1 then M.seg.map fun S => (if who = 1 then S.a else S.x) + 1 else none
def rowL (M : Mx) (k : Nat) : List Int := match k, M.seg with
  | 0, _ => M.ram
  | 1, some S => S.p0
  | _, some S => S.p1
  | _, none => []
def setR (M : Mx) (k : Nat) (l : List Int) : Mx := match k with
  | 0 => { M with ram := l }
  | 1 => { M with seg := M.seg.map fun S => { S with p0 := l } }
  | _ => { M with seg := M.seg.map fun S => { S with p1 := l } }
/-- May so many bytes be there? -/
def fitR (M : Mx) (k : Nat) (pt n : Nat) : Bool := decide (pt + n ≤ (rowL M k).length)
def readX (M : Mx) (who area : Int) (pt n : Nat) : Option (List Int) := match rowI M who area with
  | none => none
  | some k => if pt + n ≤ (rowL M k).length then some (((rowL M k).drop pt).take n) else none
def putX (l : List Int) (pt : Nat) (b : List Int) : List Int := l.take pt ++ b ++ l.drop (pt + b.length)
def writeX (M : Mx) (who area : Int) (pt : Nat) (b : List Int) : Mx × Int := match rowI M who area with
  | none => (M, 80)
  | some k => if pt + b.length ≤ (rowL M k).length then (if k = 1 ∧ b ≠ [] then (M, 81) else (setR M k (putX (rowL M k) pt b), 0)) else (M, 80)
/-- The seen row, as it lies. -/
theorem MAt.rowAt {w : World} {L T m : Nat} {M : Mx} (h : MAt w L T m M) {k : Nat} (hk : k = 0 ∨ (M.seg ≠ none ∧ k ≤ 2)) : (rowL M k).length = (if k = 0 then 64 else 16) := by
  have ho := h.ok
  rcases hk with rfl | ⟨hs, hk⟩
  · exact ho.lr
  · cases hS : M.seg with
    | none => exact absurd hS hs
    | some S =>
      have := ho.sg S hS
      match k, hk with
      | 0, _ => simp [rowL, ho.lr]
      | 1, _ => simp [rowL, hS, this.l0]
      | 2, _ => simp [rowL, hS, this.l1]
end Go.Proofs.Yteecgdbicokgoaa
