/- Words and laws of this seat that no function's walk stands in: frames as values, bytes that are read, equality of frames. -/
import Derived.Test.YtegbffcimldjnaaRows
import Derived.WalkKit
import Derived.WalkSpells
import Derived.WalkLawsBesides
import Derived.Outline
import Derived.BigRegion
import Derived.BigQuiet
import Derived.Deep.QuietTactic
import Derived.Deep.RegionHeld3
import Derived.Deep.AppendLies
import Derived.Deep.Draws
import Derived.Lib.Hide
import Derived.Handy
namespace Go.Proofs.Ytegbffcimldjnaa
open Go.RowKit
set_option linter.unusedVariables false
set_option linter.unusedSimpArgs false

/-- A frame as plain data. -/
structure Fr where
  id : Int
  ext : Bool
  len : Int
  bs : List Int
def Fr.g (f : Fr) (i : Nat) : Int := f.bs.getD i 0
abbrev Fr.val (f : Fr) : Value := .agg #[.int .u32 f.id, .bool f.ext, .int .i64 f.len, .int .u8 (f.g 0), .int .u8 (f.g 1), .int .u8 (f.g 2), .int .u8 (f.g 3), .int .u8 (f.g 4), .int .u8 (f.g 5), .int .u8 (f.g 6), .int .u8 (f.g 7)]
def Fr.eqb (f g : Fr) : Bool := f.id == g.id && (f.ext == g.ext && (f.len == g.len && (f.g 0 == g.g 0 && f.g 1 == g.g 1 && f.g 2 == g.g 2 && f.g 3 == g.g 3 && f.g 4 == g.g 4 && f.g 5 == g.g 5 && f.g 6 == g.g 6 && f.g 7 == g.g 7)))


section
variable {P : Program}

theorem run_eqRange {e : TypeId} {k : IntKind} (d : Nat) (hd : ∀ a b w, (Op.equalIn d e (.int k a) (.int k b)).run P w = .ok (a == b) w) (xs ys : Array Value) (f g : Nat → Int) (w : World) :
    ∀ (n s : Nat), (∀ i, s ≤ i → i < s + n → (part e xs (i * 1)).run P w = .ok (.int k (f i)) w) → (∀ i, s ≤ i → i < s + n → (part e ys (i * 1)).run P w = .ok (.int k (g i)) w) →
    Sem.run P (forIn (List.range' s n) ((none, ()) : Option Bool × Unit) fun i _ => do
      let a ← part e xs (i * 1)
      let b ← part e ys (i * 1)
      let r ← Op.equalIn d e a b
      if (!r) = true then pure (ForInStep.done (some false, ())) else pure (ForInStep.yield (none, ()))) w =
    .ok (if (List.range' s n).all (fun i => f i == g i) then (none, ()) else (some false, ())) w
  | 0, s, _, _ => by simp
  | n + 1, s, hx, hy => by
    have ih := run_eqRange d hd xs ys f g w n (s + 1) (fun i h1 h2 => hx i (by omega) (by omega)) (fun i h1 h2 => hy i (by omega) (by omega))
    rw [List.range'_succ, List.forIn_cons]
    simp only [Sem.run_bind, hx s (Nat.le_refl _) (by omega), hy s (Nat.le_refl _) (by omega), Result.andThen_ok, hd]
    by_cases hc : f s = g s
    · simp only [hc, beq_self_eq_true, Bool.not_true, Bool.false_eq_true, if_false, Sem.run_pure, Result.andThen_ok, ih, List.all_cons, Bool.true_and]
    · have : (f s == g s) = false := by simpa using hc
      simp [this, List.all_cons]

theorem run_equalIn_ints {t e : TypeId} {k : IntKind} {len : Nat} (ht : P.underlying t = some (.array len e)) (hs : ∀ w, (sizeOf e).run P w = .ok 1 w) (d : Nat) (hd : ∀ a b w, (Op.equalIn d e (.int k a) (.int k b)).run P w = .ok (a == b) w) (xs ys : Array Value) (f g : Nat → Int) (w : World)
    (hx : ∀ i, i < len → (part e xs (i * 1)).run P w = .ok (.int k (f i)) w) (hy : ∀ i, i < len → (part e ys (i * 1)).run P w = .ok (.int k (g i)) w) :
    (Op.equalIn (d + 1) t (.agg xs) (.agg ys)).run P w = .ok ((List.range len).all fun i => f i == g i) w := by
  simp only [Op.equalIn, Sem.run_bind, run_underlying ht, Result.andThen_ok, hs]
  simp only [Std.Legacy.Range.forIn_eq_forIn_range']
  have h := run_eqRange d hd xs ys f g w len 0 (fun i _ h => hx i (by omega)) (fun i _ h => hy i (by omega))
  have e1 : ([:len] : Std.Legacy.Range).size = len := by simp [Std.Legacy.Range.size]
  rw [e1]
  rw [h, List.range_eq_range']
  cases (List.range' 0 len).all fun i => f i == g i <;> simp

/-- Two arrays of eight numbers, '=='. -/
theorem run_equalIn_8 {t e : TypeId} {k k' : IntKind} (ht : P.underlying t = some (.array 8 e)) (he : P.underlying e = some (.int k')) (hs : ∀ w, (sizeOf e).run P w = .ok 1 w) (d : Nat)
    (a0 a1 a2 a3 a4 a5 a6 a7 b0 b1 b2 b3 b4 b5 b6 b7 : Int) (w : World) :
    (Op.equalIn (d + 2) t (.agg #[.int k a0, .int k a1, .int k a2, .int k a3, .int k a4, .int k a5, .int k a6, .int k a7]) (.agg #[.int k b0, .int k b1, .int k b2, .int k b3, .int k b4, .int k b5, .int k b6, .int k b7])).run P w =
      .ok (a0 == b0 && a1 == b1 && a2 == b2 && a3 == b3 && a4 == b4 && a5 == b5 && a6 == b6 && a7 == b7) w := by
  have hp : ∀ (c0 c1 c2 c3 c4 c5 c6 c7 : Int) (i : Nat), i < 8 → (part e #[.int k c0, .int k c1, .int k c2, .int k c3, .int k c4, .int k c5, .int k c6, .int k c7] (i * 1)).run P w = .ok (.int k ([c0, c1, c2, c3, c4, c5, c6, c7].getD i 0)) w := by
    intro c0 c1 c2 c3 c4 c5 c6 c7 i hi
    have hq : ∀ (l : List Int), i < l.length → (part e (l.map (Value.int k)).toArray (i * 1)).run P w = .ok (.int k (l.getD i 0)) w := fun l hl => by
      rw [Nat.mul_one]
      simp [part, isAgg, run_underlying he, List.getElem?_eq_getElem hl]
    exact hq [c0, c1, c2, c3, c4, c5, c6, c7] hi
  rw [run_equalIn_ints ht hs (d + 1) (fun a b w => run_equalIn_int w d e k k' a b he) _ _ (fun i => [a0, a1, a2, a3, a4, a5, a6, a7].getD i 0) (fun i => [b0, b1, b2, b3, b4, b5, b6, b7].getD i 0) w (hp _ _ _ _ _ _ _ _) (hp _ _ _ _ _ _ _ _)]
  simp [List.range_succ, Bool.and_assoc]
end

/-- May such an Id be? -/
def kn (id : Int) (ext : Bool) : Bool := decide (id < 2048) || ext && decide (id < 536870912)
def Fr.zeros (f : Fr) : Bool := (List.range 8).all fun (i : Nat) => decide ((i : Int) < f.len) || f.g i == 0
def Fr.may (f : Fr) : Bool := kn f.id f.ext && decide (0 ≤ f.len) && decide (f.len ≤ 8) && f.zeros
def Fr.none_ : Fr := ⟨0, false, 0, []⟩
def mkF (id : Int) (ext : Bool) (xs : List Int) : Fr := if kn id ext = true ∧ xs.length ≤ 8 then ⟨id, ext, xs.length, xs⟩ else Fr.none_
def mkE (id : Int) (ext : Bool) (xs : List Int) : Int := if kn id ext = false then 1 else if xs.length ≤ 8 then 0 else 3
def Fr.bytes (f : Fr) : List Int := if f.may then (List.range f.len.toNat).map f.g else []
def Fr.pad (f : Fr) (c : Int) : Fr := if f.may then ⟨f.id, f.ext, 8, (List.range 8).map fun (i : Nat) => if decide (((i : Nat) : Int) < f.len) then f.g i else c⟩ else f
def Fr.rank (f : Fr) : Int := if f.may then (if f.ext then f.id / 262144 * 524288 + 262144 + f.id % 262144 else f.id * 524288) else 4294967295
/-- The numbers are of their kinds. -/
def Fr.wf (f : Fr) : Prop := 0 ≤ f.id ∧ f.id < 4294967296 ∧ -9223372036854775808 ≤ f.len ∧ f.len ≤ 9223372036854775807 ∧ ∀ i, 0 ≤ f.g i ∧ f.g i < 256

/-- A slice that reads as these cells, below block B. -/
def Rd (w : World) (B : Nat) (A : Option Addr) (vs : List Value) : Prop :=
  vs ≠ [] → ∃ b o, A = some ⟨b, o, none⟩ ∧ b < B ∧ ∀ i u, vs[i]? = some u → w.cell? ⟨b, o + i, none⟩ = some u
abbrev u8s (xs : List Int) : List Value := xs.map (Value.int .u8)

section
variable {w w' : World} {B B' : Nat} {A : Option Addr} {vs : List Value}
theorem Rd.nil : Rd w B A [] := fun h => absurd rfl h
theorem Rd.keep (h : Rd w B A vs) (hk : ∀ p : Addr, p.block < B → w'.cell? p = w.cell? p) : Rd w' B A vs := fun hn => by
  obtain ⟨b, o, e, hb, hc⟩ := h hn
  exact ⟨b, o, e, hb, fun i u hu => (hk _ hb).trans (hc i u hu)⟩
theorem Rd.more (h : Rd w B A vs) (hB : B ≤ B') : Rd w B' A vs := fun hn => by
  obtain ⟨b, o, e, hb, hc⟩ := h hn
  exact ⟨b, o, e, by omega, hc⟩
theorem Rd.below (h : Rd w B A vs) (hb : Below B w w') : Rd w' B A vs := h.keep fun _ hp => hb.cell hp
theorem Rd.drew (h : Rd w B A vs) : Rd w.drew B A vs := h
theorem Rd.drewN (h : Rd w B A vs) (k : Nat) : Rd (w.drewN k) B A vs := h
theorem Rd.alloc (h : Rd w B A vs) (hB : B ≤ w.heap.size) (o : Obj) : Rd (w.alloc o) B A vs := h.keep fun p hp => World.cell?_alloc_lt w o p (by omega)
theorem Rd.setCell (h : Rd w B A vs) {p : Addr} (hB : B ≤ p.block) (u : Value) : Rd (w.setCell p u) B A vs :=
  h.keep fun q hq => World.cell?_setCell_other w p q u (fun e => by subst e; omega)
theorem Rd.take (h : Rd w B A vs) (k : Nat) : Rd w B A (vs.take k) := fun hn => by
  obtain ⟨b, o, e, hb, hc⟩ := h (fun e => hn (by rw [e]; simp))
  exact ⟨b, o, e, hb, fun i u hu => hc i u (by
    rw [List.getElem?_take] at hu
    split at hu
    · exact hu
    · cases hu)⟩
end

/-- Behind a call that makes memory of its own: old cells and old marks, as rules for the walk. -/
theorem bcell {W w1 : World} (hb : Below W.heap.size W w1) : (∀ b o, b < W.heap.size → w1.cell? ⟨b, o, none⟩ = W.cell? ⟨b, o, none⟩) ∧ (∀ b o, b < W.heap.size → w1.frozen? ⟨b, o, none⟩ = W.frozen? ⟨b, o, none⟩) :=
  ⟨fun b o h => hb.cell (p := ⟨b, o, none⟩) h, fun b o h => hb.frozen (p := ⟨b, o, none⟩) h⟩
theorem bel1 {w w' : World} {o : Obj} (hb : Below (w.alloc o).heap.size (w.alloc o) w') : Below w.heap.size w w' :=
  ((Below.refl _ _).alloc (Nat.le_refl _) _).trans (hb.mono (by simp))
theorem bel2 {a b c : World} (h : Below a.heap.size a b) (k : Below b.heap.size b c) : Below a.heap.size a c := h.trans (k.mono h.size)

/-- Block g is just these cells, none frozen. -/
def Blk (w : World) (g : Nat) (t : TypeId) (cs : Array Value) : Prop := w.heap[g]? = some (.cells cs t (0, 0))
section
variable {w w' : World} {g : Nat} {t : TypeId} {cs : Array Value}
theorem Blk.lt (h : Blk w g t cs) : g < w.heap.size := by
  rcases Nat.lt_or_ge g w.heap.size with hlt | hge
  · exact hlt
  · unfold Blk at h; rw [Array.getElem?_eq_none hge] at h; cases h
theorem Blk.cell (h : Blk w g t cs) : ∀ i, w.cell? ⟨g, i, none⟩ = cs[i]? := fun i => cell_of_row w g i cs t (0, 0) h
theorem Blk.frozen (h : Blk w g t cs) : ∀ i, w.frozen? ⟨g, i, none⟩ = false := fun i => by
  unfold Blk at h
  simp [World.frozen?, h]
theorem Blk.new (w : World) (t : TypeId) (cs : Array Value) : Blk (w.alloc (.cells cs t)) w.heap.size t cs := heap_alloc_new w _
theorem Blk.drew (h : Blk w g t cs) : Blk w.drew g t cs := h
theorem Blk.drewN (h : Blk w g t cs) (n : Nat) : Blk (w.drewN n) g t cs := h
theorem Blk.alloc (h : Blk w g t cs) (o : Obj) : Blk (w.alloc o) g t cs := (Below.heap_alloc w o g h.lt).trans h
theorem Blk.set_ (h : Blk w g t cs) (i : Nat) (u : Value) : Blk (w.setCell ⟨g, i, none⟩ u) g t (cs.setIfInBounds i u) := by
  unfold Blk at h ⊢
  simp [World.setCell, Array.getElem?_modify, h]
theorem Blk.far (h : Blk w g t cs) {p : Addr} (hp : g ≠ p.block) (u : Value) : Blk (w.setCell p u) g t cs := (Below.heap_setCell w p u g hp).trans h
theorem Blk.below (h : Blk w g t cs) (hb : Below w.heap.size w w') : Blk w' g t cs := (hb.block g h.lt).trans h
theorem Blk.new_below {w w' : World} {t : TypeId} {cs : Array Value} (hb : Below (w.alloc (.cells cs t)).heap.size (w.alloc (.cells cs t)) w') : Blk w' w.heap.size t cs := (Blk.new w t cs).below hb
end
end Go.Proofs.Ytegbffcimldjnaa
