/- Words and laws that no function of the program stands in. -/
import Derived.Test.YteecgdbicokgoaaRows
import Derived.WalkKit
import Derived.WalkSpells
import Derived.WalkLawsBesides
import Derived.Outline
import Derived.BigRegion
import Derived.BigQuiet
import Derived.Deep.QuietTactic
import Derived.Deep.RegionHeld3
import Derived.Deep.AppendLies
import Derived.Deep.Draws
import Derived.Lib.Hide
import Derived.Handy
import Derived.Deep.MidRow
import Derived.Deep.LoopGhost
import Derived.Deep.RegionLaw
import Derived.Deep.Cut
import Derived.Deep.CutRange
import Derived.Deep.DeepCutAuto
namespace Go.Proofs.Yteecgdbicokgoaa
open Go.RowKit
set_option linter.unusedVariables false
set_option linter.unusedSimpArgs false

section
variable {P : Program}

theorem run_eqRange {e : TypeId} {k : IntKind} (d : Nat) (hd : ∀ a b w, (Op.equalIn d e (.int k a) (.int k b)).run P w = .ok (a == b) w) (xs ys : Array Value) (f g : Nat → Int) (w : World) :
    ∀ (n s : Nat), (∀ i, s ≤ i → i < s + n → (part e xs (i * 1)).run P w = .ok (.int k (f i)) w) → (∀ i, s ≤ i → i < s + n → (part e ys (i * 1)).run P w = .ok (.int k (g i)) w) →
    Sem.run P (forIn (List.range' s n) ((none, ()) : Option Bool × Unit) fun i _ => do
      let a ← part e xs (i * 1)
      let b ← part e ys (i * 1)
      let r ← Op.equalIn d e a b
      if (!r) = true then pure (ForInStep.done (some false, ())) else pure (ForInStep.yield (none, ()))) w =
    .ok (if (List.range' s n).all (fun i => f i == g i) then (none, ()) else (some false, ())) w
  | 0, s, _, _ => by simp
  | n + 1, s, hx, hy => by
    have ih := run_eqRange d hd xs ys f g w n (s + 1) (fun i h1 h2 => hx i (by omega) (by omega)) (fun i h1 h2 => hy i (by omega) (by omega))
    rw [List.range'_succ, List.forIn_cons]
    simp only [Sem.run_bind, hx s (Nat.le_refl _) (by omega), hy s (Nat.le_refl _) (by omega), Result.andThen_ok, hd]
    by_cases hc : f s = g s
    · simp only [hc, beq_self_eq_true, Bool.not_true, Bool.false_eq_true, if_false, Sem.run_pure, Result.andThen_ok, ih, List.all_cons, Bool.true_and]
    · have : (f s == g s) = false := by simpa using hc
      simp [this, List.all_cons]

theorem run_equalIn_ints {t e : TypeId} {k : IntKind} {len : Nat} (ht : P.underlying t = some (.array len e)) (hs : ∀ w, (sizeOf e).run P w = .ok 1 w) (d : Nat) (hd : ∀ a b w, (Op.equalIn d e (.int k a) (.int k b)).run P w = .ok (a == b) w) (xs ys : Array Value) (f g : Nat → Int) (w : World)
    (hx : ∀ i, i < len → (part e xs (i * 1)).run P w = .ok (.int k (f i)) w) (hy : ∀ i, i < len → (part e ys (i * 1)).run P w = .ok (.int k (g i)) w) :
    (Op.equalIn (d + 1) t (.agg xs) (.agg ys)).run P w = .ok ((List.range len).all fun i => f i == g i) w := by
  simp only [Op.equalIn, Sem.run_bind, run_underlying ht, Result.andThen_ok, hs]
  simp only [Std.Legacy.Range.forIn_eq_forIn_range']
  have h := run_eqRange d hd xs ys f g w len 0 (fun i _ h => hx i (by omega)) (fun i _ h => hy i (by omega))
  have e1 : ([:len] : Std.Legacy.Range).size = len := by simp [Std.Legacy.Range.size]
  rw [e1]
  rw [h, List.range_eq_range']
  cases (List.range' 0 len).all fun i => f i == g i <;> simp

/-- Two arrays of eight numbers, '=='. -/
theorem run_equalIn_8 {t e : TypeId} {k k' : IntKind} (ht : P.underlying t = some (.array 8 e)) (he : P.underlying e = some (.int k')) (hs : ∀ w, (sizeOf e).run P w = .ok 1 w) (d : Nat)
    (a0 a1 a2 a3 a4 a5 a6 a7 b0 b1 b2 b3 b4 b5 b6 b7 : Int) (w : World) :
    (Op.equalIn (d + 2) t (.agg #[.int k a0, .int k a1, .int k a2, .int k a3, .int k a4, .int k a5, .int k a6, .int k a7]) (.agg #[.int k b0, .int k b1, .int k b2, .int k b3, .int k b4, .int k b5, .int k b6, .int k b7])).run P w =
      .ok (a0 == b0 && a1 == b1 && a2 == b2 && a3 == b3 && a4 == b4 && a5 == b5 && a6 == b6 && a7 == b7) w := by
  have hp : ∀ (c0 c1 c2 c3 c4 c5 c6 c7 : Int) (i : Nat), i < 8 → (part e #[.int k c0, .int k c1, .int k c2, .int k c3, .int k c4, .int k c5, .int k c6, .int k c7] (i * 1)).run P w = .ok (.int k ([c0, c1, c2, c3, c4, c5, c6, c7].getD i 0)) w := by
    intro c0 c1 c2 c3 c4 c5 c6 c7 i hi
    have hq : ∀ (l : List Int), i < l.length → (part e (l.map (Value.int k)).toArray (i * 1)).run P w = .ok (.int k (l.getD i 0)) w := fun l hl => by
      rw [Nat.mul_one]
      simp [part, isAgg, run_underlying he, List.getElem?_eq_getElem hl]
    exact hq [c0, c1, c2, c3, c4, c5, c6, c7] hi
  rw [run_equalIn_ints ht hs (d + 1) (fun a b w => run_equalIn_int w d e k k' a b he) _ _ (fun i => [a0, a1, a2, a3, a4, a5, a6, a7].getD i 0) (fun i => [b0, b1, b2, b3, b4, b5, b6, b7].getD i 0) w (hp _ _ _ _ _ _ _ _) (hp _ _ _ _ _ _ _ _)]
  simp [List.range_succ, Bool.and_assoc]
end

/-- A slice that reads as these cells, below block B. -/
def Rd (w : World) (B : Nat) (A : Option Addr) (vs : List Value) : Prop :=
  vs ≠ [] → ∃ b o, A = some ⟨b, o, none⟩ ∧ b < B ∧ ∀ i u, vs[i]? = some u → w.cell? ⟨b, o + i, none⟩ = some u
abbrev u8s (xs : List Int) : List Value := xs.map (Value.int .u8)

section
variable {w w' : World} {B B' : Nat} {A : Option Addr} {vs : List Value}
theorem Rd.nil : Rd w B A [] := fun h => absurd rfl h
theorem Rd.keep (h : Rd w B A vs) (hk : ∀ p : Addr, p.block < B → w'.cell? p = w.cell? p) : Rd w' B A vs := fun hn => by
  obtain ⟨b, o, e, hb, hc⟩ := h hn
  exact ⟨b, o, e, hb, fun i u hu => (hk _ hb).trans (hc i u hu)⟩
theorem Rd.more (h : Rd w B A vs) (hB : B ≤ B') : Rd w B' A vs := fun hn => by
  obtain ⟨b, o, e, hb, hc⟩ := h hn
  exact ⟨b, o, e, by omega, hc⟩
theorem Rd.below (h : Rd w B A vs) (hb : Below B w w') : Rd w' B A vs := h.keep fun _ hp => hb.cell hp
theorem Rd.drew (h : Rd w B A vs) : Rd w.drew B A vs := h
theorem Rd.drewN (h : Rd w B A vs) (k : Nat) : Rd (w.drewN k) B A vs := h
theorem Rd.alloc (h : Rd w B A vs) (hB : B ≤ w.heap.size) (o : Obj) : Rd (w.alloc o) B A vs := h.keep fun p hp => World.cell?_alloc_lt w o p (by omega)
theorem Rd.setCell (h : Rd w B A vs) {p : Addr} (hB : B ≤ p.block) (u : Value) : Rd (w.setCell p u) B A vs :=
  h.keep fun q hq => World.cell?_setCell_other w p q u (fun e => by subst e; omega)
theorem Rd.take (h : Rd w B A vs) (k : Nat) : Rd w B A (vs.take k) := fun hn => by
  obtain ⟨b, o, e, hb, hc⟩ := h (fun e => hn (by rw [e]; simp))
  exact ⟨b, o, e, hb, fun i u hu => hc i u (by
    rw [List.getElem?_take] at hu
    split at hu
    · exact hu
    · cases hu)⟩
end

/-- Behind a call that makes memory of its own: old cells and old marks, as rules for the walk. -/
theorem bcell {W w1 : World} (hb : Below W.heap.size W w1) : (∀ b o, b < W.heap.size → w1.cell? ⟨b, o, none⟩ = W.cell? ⟨b, o, none⟩) ∧ (∀ b o, b < W.heap.size → w1.frozen? ⟨b, o, none⟩ = W.frozen? ⟨b, o, none⟩) :=
  ⟨fun b o h => hb.cell (p := ⟨b, o, none⟩) h, fun b o h => hb.frozen (p := ⟨b, o, none⟩) h⟩
theorem bel1 {w w' : World} {o : Obj} (hb : Below (w.alloc o).heap.size (w.alloc o) w') : Below w.heap.size w w' :=
  ((Below.refl _ _).alloc (Nat.le_refl _) _).trans (hb.mono (by simp))
theorem bel2 {a b c : World} (h : Below a.heap.size a b) (k : Below b.heap.size b c) : Below a.heap.size a c := h.trans (k.mono h.size)

/-- Block g is just these cells, none frozen. -/
def Blk (w : World) (g : Nat) (t : TypeId) (cs : Array Value) : Prop := w.heap[g]? = some (.cells cs t (0, 0))
section
variable {w w' : World} {g : Nat} {t : TypeId} {cs : Array Value}
theorem Blk.lt (h : Blk w g t cs) : g < w.heap.size := by
  rcases Nat.lt_or_ge g w.heap.size with hlt | hge
  · exact hlt
  · unfold Blk at h; rw [Array.getElem?_eq_none hge] at h; cases h
theorem Blk.cell (h : Blk w g t cs) : ∀ i, w.cell? ⟨g, i, none⟩ = cs[i]? := fun i => cell_of_row w g i cs t (0, 0) h
theorem Blk.frozen (h : Blk w g t cs) : ∀ i, w.frozen? ⟨g, i, none⟩ = false := fun i => by
  unfold Blk at h
  simp [World.frozen?, h]
theorem Blk.new (w : World) (t : TypeId) (cs : Array Value) : Blk (w.alloc (.cells cs t)) w.heap.size t cs := heap_alloc_new w _
theorem Blk.drew (h : Blk w g t cs) : Blk w.drew g t cs := h
theorem Blk.drewN (h : Blk w g t cs) (n : Nat) : Blk (w.drewN n) g t cs := h
theorem Blk.alloc (h : Blk w g t cs) (o : Obj) : Blk (w.alloc o) g t cs := (Below.heap_alloc w o g h.lt).trans h
theorem Blk.set_ (h : Blk w g t cs) (i : Nat) (u : Value) : Blk (w.setCell ⟨g, i, none⟩ u) g t (cs.setIfInBounds i u) := by
  unfold Blk at h ⊢
  simp [World.setCell, Array.getElem?_modify, h]
theorem Blk.far (h : Blk w g t cs) {p : Addr} (hp : g ≠ p.block) (u : Value) : Blk (w.setCell p u) g t cs := (Below.heap_setCell w p u g hp).trans h
theorem Blk.below (h : Blk w g t cs) (hb : Below w.heap.size w w') : Blk w' g t cs := (hb.block g h.lt).trans h
theorem Blk.new_below {w w' : World} {t : TypeId} {cs : Array Value} (hb : Below (w.alloc (.cells cs t)).heap.size (w.alloc (.cells cs t)) w') : Blk w' w.heap.size t cs := (Blk.new w t cs).below hb
end

def blkOf (A : Option Addr) : Option Nat := A.map (·.block)
/-- The slice '.slice A n c' owns the cells xs: nil, or a row of the call's own blocks (from 'base' on), not frozen. -/
def Own (w : World) (base : Nat) (e : TypeId) (size : Nat) (A : Option Addr) (n c : Nat) (xs : List Value) : Prop :=
  xs.length = n * size ∧ n ≤ c ∧ c ≤ maxLen ∧ (A = none → c = 0) ∧
  ∀ a, A = some a → ∃ g off cur, a = ⟨g, off, none⟩ ∧ base ≤ g ∧ w.heap[g]? = some (.cells cur e (0, 0)) ∧ off + c * size ≤ cur.size ∧ (cur.toList.drop off).take (n * size) = xs

section
variable {w w' : World} {base : Nat} {e : TypeId} {size : Nat} {A : Option Addr} {n c : Nat} {xs : List Value}
theorem Own.nil (w : World) (base : Nat) (e : TypeId) (size : Nat) : Own w base e size none 0 0 [] :=
  ⟨by simp, Nat.le_refl _, Nat.zero_le _, fun _ => rfl, fun a h => by cases h⟩
theorem Own.made (w : World) (hb : base ≤ w.heap.size) (cs : Array Value) (n c : Nat) (hn : n ≤ c) (hc : c ≤ maxLen) (hs : cs.size = c * size) :
    Own (w.alloc (.cells cs e)) base e size (some ⟨w.heap.size, 0, none⟩) n c (cs.toList.take (n * size)) :=
  ⟨by rw [List.length_take, Array.length_toList, hs]; exact Nat.min_eq_left (Nat.mul_le_mul_right _ hn), hn, hc, (fun h => by cases h), fun a h => by
    injection h with h
    subst h
    exact ⟨w.heap.size, 0, cs, rfl, hb, heap_alloc_new w _, by omega, by simp⟩⟩
theorem Own.lt (h : Own w base e size A n c xs) {g : Nat} (hg : blkOf A = some g) : base ≤ g ∧ g < w.heap.size := by
  cases A with
  | none => simp [blkOf] at hg
  | some a =>
    obtain ⟨g', off, cur, rfl, hb, hh, _⟩ := h.2.2.2.2 a rfl
    simp [blkOf] at hg
    subst hg
    refine ⟨hb, ?_⟩
    rcases Nat.lt_or_ge g' w.heap.size with hlt | hge
    · exact hlt
    · rw [Array.getElem?_eq_none hge] at hh; cases hh
theorem Own.kept (h : Own w base e size A n c xs) (hk : ∀ g, blkOf A = some g → w'.heap[g]? = w.heap[g]?) : Own w' base e size A n c xs := by
  obtain ⟨h1, h2, h3, h4, h5⟩ := h
  refine ⟨h1, h2, h3, h4, fun a ha => ?_⟩
  obtain ⟨g, off, cur, rfl, hb, hh, r⟩ := h5 a ha
  exact ⟨g, off, cur, rfl, hb, (hk g (by rw [ha]; rfl)).trans hh, r⟩
theorem Own.grown (h : Own w base e size A n c xs) {row : Option Nat} (hg : w.grownBy w' row) (hne : blkOf A = none ∨ blkOf A ≠ row) : Own w' base e size A n c xs :=
  h.kept fun g hgb => hg.block g (h.lt hgb).2 (by rcases hne with h | h <;> rw [hgb] at h <;> simp_all)
theorem Own.below (h : Own w base e size A n c xs) (hb : Below w.heap.size w w') : Own w' base e size A n c xs :=
  h.kept fun g hg => hb.block g (h.lt hg).2
theorem Own.alloc (h : Own w base e size A n c xs) (o : Obj) : Own (w.alloc o) base e size A n c xs :=
  h.kept fun g hg => Below.heap_alloc w o g (h.lt hg).2
theorem Own.drew (h : Own w base e size A n c xs) : Own w.drew base e size A n c xs := h
theorem Own.drewN (h : Own w base e size A n c xs) (k : Nat) : Own (w.drewN k) base e size A n c xs := h
theorem Own.far (h : Own w base e size A n c xs) {p : Addr} (hp : blkOf A ≠ some p.block) (u : Value) : Own (w.setCell p u) base e size A n c xs :=
  h.kept fun g hg => Below.heap_setCell w p u g (fun e => hp (by rw [hg, e]))
theorem Own.more (h : Own w base e size A n c xs) {base' : Nat} (hb : base' ≤ base) : Own w base' e size A n c xs := by
  obtain ⟨h1, h2, h3, h4, h5⟩ := h
  refine ⟨h1, h2, h3, h4, fun a ha => ?_⟩
  obtain ⟨g, off, cur, rfl, hb, r⟩ := h5 a ha
  exact ⟨g, off, cur, rfl, by omega, r⟩
/-- The cells of what is owned. -/
theorem Own.cells {g off : Nat} (h : Own w base e size (some ⟨g, off, none⟩) n c xs) : ∀ i u, xs[i]? = some u → w.cell? ⟨g, off + i, none⟩ = some u := by
  intro i u hu
  obtain ⟨h1, h2, h3, h4, h5⟩ := h
  obtain ⟨g', off', cur, ha, hb, hh, hfit, htake⟩ := h5 _ rfl
  simp only [Addr.mk.injEq, and_true] at ha
  obtain ⟨rfl, rfl⟩ := ha
  rw [← htake, List.getElem?_take] at hu
  split at hu
  · rw [List.getElem?_drop] at hu
    rw [cell_of_row w g _ cur e (0, 0) hh]
    simpa using hu
  · cases hu
theorem Own.frozen {g off : Nat} (h : Own w base e size (some ⟨g, off, none⟩) n c xs) : ∀ i, w.frozen? ⟨g, i, none⟩ = false := by
  intro i
  obtain ⟨g', off', cur, ha, hb, hh, hfit, htake⟩ := h.2.2.2.2 _ rfl
  simp only [Addr.mk.injEq, and_true] at ha
  obtain ⟨rfl, rfl⟩ := ha
  simp [World.frozen?, hh]
/-- What is owned reads. -/
theorem Own.rd (h : Own w base e size A n c xs) : Rd w w.heap.size A xs := fun hn => by
  cases A with
  | none =>
    have := h.1; have h2 := h.2.1; have h4 := h.2.2.2.1 rfl
    obtain rfl : n = 0 := by omega
    simp at this
    exact absurd this hn
  | some a =>
    obtain ⟨g, off, cur, rfl, _⟩ := h.2.2.2.2 a rfl
    exact ⟨g, off, rfl, (h.lt (g := g) rfl).2, h.cells⟩
/-- One place of what is owned is stored. -/
theorem Own.set_ {g off : Nat} (h : Own w base e size (some ⟨g, off, none⟩) n c xs) (i : Nat) (hi : i < n * size) (u : Value) : Own (w.setCell ⟨g, off + i, none⟩ u) base e size (some ⟨g, off, none⟩) n c (xs.set i u) := by
  obtain ⟨h1, h2, h3, h4, h5⟩ := h
  refine ⟨by simpa using h1, h2, h3, h4, fun a ha => ?_⟩
  injection ha with ha
  subst ha
  obtain ⟨g', off', cur, ha, hb, hh, hfit, htake⟩ := h5 _ rfl
  simp only [Addr.mk.injEq, and_true] at ha
  obtain ⟨rfl, rfl⟩ := ha
  refine ⟨g, off, cur.setIfInBounds (off + i) u, rfl, hb, by simp [World.setCell, Array.getElem?_modify, hh], by simpa using hfit, ?_⟩
  rw [← htake]
  simp only [Array.toList_setIfInBounds]
  rw [List.drop_set, if_neg (by omega), show off + i - off = i by omega, List.take_set]
/-- A cut at the front, as the model makes it. -/
theorem Own.cut (h : Own w base e size A n c xs) {k : Nat} (hk : k ≤ n) (hsz : 0 < size) : Own w base e size (if c = k then A else A.map (·.add (k * size))) (n - k) (c - k) (xs.drop (k * size)) := by
  obtain ⟨h1, h2, h3, h4, h5⟩ := h
  refine ⟨by rw [List.length_drop, h1, Nat.sub_mul], by omega, by omega, fun hA => ?_, fun a ha => ?_⟩
  · split at hA
    · omega
    · cases A with
      | none => have := h4 rfl; omega
      | some a => simp at hA
  · cases A with
    | none => simp at ha
    | some a0 =>
      obtain ⟨g, off, cur, rfl, hb, hh, hfit, htake⟩ := h5 _ rfl
      split at ha
      · rename_i hck
        injection ha with ha
        subst ha
        refine ⟨g, off, cur, rfl, hb, hh, by subst hck; simp; omega, ?_⟩
        obtain rfl : n = k := by omega
        simp [h1]
      · simp only [Option.map_some, Option.some.injEq] at ha
        subst ha
        refine ⟨g, off + k * size, cur, by unfold Addr.add; split <;> simp_all, hb, hh, ?_, ?_⟩
        · have : k * size + (c - k) * size = c * size := by rw [← Nat.add_mul]; congr 1; omega
          omega
        · rw [← htake, List.drop_take, List.drop_drop, Nat.sub_mul]
end

section
variable {P : Program} (w : World)

theorem run_app (base : Nat) (t ty e : TypeId) (z : Value) (size bytes : Nat) (ht : P.underlying t = some (.slice e)) (hinfo : (P.info? e).map (fun i => (i.zero, i.size, i.bytes)) = some (some z, size, bytes))
    (hzs : z.cells.size = size) (hsz : 0 < size)
    (A : Option Addr) (n c : Nat) (xs : List Value) (hown : Own w base e size A n c xs)
    (B : Nat) (A2 : Option Addr) (m c2 : Nat) (news : List Value) (hl : news.length = m * size) (hr : Rd w B A2 news) (h1 : ∀ u ∈ news, u.oneCell' = true)
    (h63 : n + m ≤ maxLen) (hbytes : (n + m) * bytes ≤ 140737488355328) (hbase : base ≤ w.heap.size) :
    ∃ A' c' w', (Builtin.append_ #[t, t] ty #[.slice A n c, .slice A2 m c2]).run P w = .ok (.slice A' (n + m) c') w' ∧ Own w' base e size A' (n + m) c' (xs ++ news) ∧ w.grownBy w' (blkOf A) ∧
      (blkOf A' = blkOf A ∨ blkOf A' = some w.heap.size) := by
  obtain ⟨i, hi, hz, hsize, hby⟩ := info_parts hinfo
  subst hsize
  subst hby
  have hsmall : n + m ≤ 9223372036854775807 := by simp only [maxLen] at h63; omega
  obtain ⟨o1, o2, o3, o4, o5⟩ := id hown
  by_cases hm : m = 0
  · subst hm
    obtain rfl : news = [] := List.eq_nil_of_length_eq_zero (by simpa using hl)
    refine ⟨A, c, w, ?_, by simpa using hown, ⟨rfl, rfl, rfl, Nat.le_refl _, fun _ _ _ => rfl⟩, .inl rfl⟩
    cases A <;> cases A2 <;> simp [Builtin.append_, run_underlying ht, sizeOf, typeInfo, hi, Builtin.lenOf, Builtin.firstCells, loadCells, loadCellsFrom, storeCells, o2]
  · have hne : news ≠ [] := by
      intro h0
      subst h0
      have hp := Nat.mul_pos (Nat.pos_of_ne_zero hm) hsz
      simp only [List.length_nil] at hl
      omega
    obtain ⟨b, o, rfl, _, hc⟩ := hr hne
    have hadd : ∀ (b o j : Nat), (⟨b, o, none⟩ : Addr).add j = ⟨b, o + j, none⟩ := fun b o j => by unfold Addr.add; split <;> simp_all
    have hnews : ∀ j u, news[j]? = some u → w.cell? ((⟨b, o, none⟩ : Addr).add j) = some u := fun j u hu => by rw [hadd]; exact hc j u hu
    have hlen : (xs ++ news).length = (n + m) * i.size := by rw [List.length_append, o1, hl, Nat.add_mul]
    have grown : ∀ (old : Nat), old < n + m → ∀ (row : Option Nat),
        Own (w.drew.alloc (.cells (xs.toArray ++ news.toArray ++ Builtin.zeroCells z.cells (grownCap w (n + m) old e - (n + m))) e)) base e i.size (some ⟨w.heap.size, 0, none⟩) (n + m) (grownCap w (n + m) old e) (xs ++ news) ∧
        w.grownBy (w.drew.alloc (.cells (xs.toArray ++ news.toArray ++ Builtin.zeroCells z.cells (grownCap w (n + m) old e - (n + m))) e)) row := by
      intro old ho row
      have hge := grownCap_ge w (n + m) old e
      have hcm : grownCap w (n + m) old e ≤ maxLen := grownCap_le_maxLen w (n + m) old e h63
      refine ⟨⟨hlen, hge, hcm, fun h => (by cases h), fun a ha => ?_⟩, ⟨rfl, rfl, rfl, by simp, fun k hk _ => Below.heap_alloc w.drew _ k hk⟩⟩
      injection ha with ha
      subst ha
      refine ⟨w.heap.size, 0, _, rfl, hbase, heap_alloc_new w.drew _, ?_, ?_⟩
      · simp only [Array.size_append, List.size_toArray, size_zeroCells, hzs, o1, hl, ← Nat.add_mul, Nat.zero_add]
        refine Nat.le_of_eq ?_
        congr 1
        omega
      · simp only [Array.toList_append, List.append_assoc, List.drop_zero]
        rw [← List.append_assoc, ← hlen]
        exact List.take_left
    by_cases hroom : n + m ≤ c
    · cases A with
      | none => have := o4 rfl; omega
      | some a =>
        obtain ⟨g, off, cur, rfl, hb, hg, hfit, htake⟩ := o5 _ rfl
        have hmul : n * i.size + m * i.size ≤ c * i.size := by rw [← Nat.add_mul]; exact Nat.mul_le_mul_right _ hroom
        have hf := run_firstCells_some (P := P) w i.size m ⟨b, o, none⟩ m c2 news hl hnews
        have hst := run_storeCells_at P g (off + n * i.size) e news 0 cur w hg (by omega) h1
        simp only [Nat.add_zero] at hst
        refine ⟨some ⟨g, off, none⟩, c, w.setRow g (cur.toList.take (off + n * i.size) ++ news ++ cur.toList.drop (off + n * i.size + news.length)).toArray, ?_, ⟨hlen, hroom, o3, fun h => (by cases h), fun a ha => ?_⟩, ⟨rfl, rfl, rfl, by simp, fun k _ hk => setRow_other w g k _ (fun e => hk (by simp [blkOf, e]))⟩, .inl rfl⟩
        · simp [Builtin.append_, run_underlying ht, sizeOf, typeInfo, hi, Builtin.lenOf, hroom, hf, hadd, hst]
        · injection ha with ha
          subst ha
          refine ⟨g, off, _, rfl, hb, setRow_heap w g cur _ e _ hg, ?_, ?_⟩
          · simp only [List.size_toArray, List.length_append, List.length_take, List.length_drop, Array.length_toList]
            omega
          · have hle : off + n * i.size ≤ cur.toList.length := by simp only [Array.length_toList]; omega
            rw [← htake, Nat.add_mul]
            simp only [List.append_assoc]
            rw [List.drop_append_of_le_length (by simp only [List.length_take, Array.length_toList]; omega), List.drop_take, show off + n * i.size - off = n * i.size by omega]
            have e1 : ((cur.toList.drop off).take (n * i.size)).length = n * i.size := by rw [htake, o1]
            rw [← List.append_assoc, show n * i.size + m * i.size = (((cur.toList.drop off).take (n * i.size)) ++ news).length by rw [List.length_append, e1, hl]]
            exact List.take_left
    · cases A with
      | none =>
        have hc0 := o4 rfl
        obtain rfl : n = 0 := by omega
        subst hc0
        obtain rfl : xs = [] := List.eq_nil_of_length_eq_zero (by simpa using o1)
        have hrr := run_append_nil (P := P) w t ty e i z ht hi hz ⟨b, o, none⟩ m c2 news hl hnews (by omega) (by omega) (by have hb := hbytes; simp only [Nat.zero_add] at hb; omega)
        have hgr := grown 0 (by omega) (blkOf none)
        simp only [Nat.zero_add, List.nil_append, Array.empty_append] at hgr ⊢
        exact ⟨_, _, _, hrr, hgr.1, hgr.2, .inr rfl⟩
      | some a =>
        obtain ⟨g, off, cur, rfl, hb, hg, hfit, htake⟩ := o5 _ rfl
        have holds : ∀ j u, xs[j]? = some u → w.cell? ((⟨g, off, none⟩ : Addr).add j) = some u := fun j u hu => by rw [hadd]; exact hown.cells j u hu
        have hrr := run_append_grow (P := P) w t ty e i z ht hi hz ⟨g, off, none⟩ n c xs o1 holds ⟨b, o, none⟩ m c2 news hl hnews (by omega) (by omega) (growslice_fits (by omega) hbytes)
        have hgr := grown c (by omega) (blkOf (some ⟨g, off, none⟩))
        exact ⟨_, _, _, hrr, hgr.1, hgr.2, .inr rfl⟩

theorem wp_app {o : Oper} {a : Act} {K : Act → World → Prop} {Q : Exit → Act → World → Prop} (s x : Operand) (t : TypeId)
    (ho : o.op = .call { callee := .builtin .append, args := #[s, x], argTypes := #[t, t] })
    (base : Nat) (e : TypeId) (z : Value) (size bytes : Nat) (ht : P.underlying t = some (.slice e)) (hinfo : (P.info? e).map (fun i => (i.zero, i.size, i.bytes)) = some (some z, size, bytes))
    (hzs : z.cells.size = size) (hsz : 0 < size)
    (A : Option Addr) (n c : Nat) (xs : List Value) (hs : a.eval s = .slice A n c) (hown : Own w base e size A n c xs)
    (B : Nat) (A2 : Option Addr) (m c2 : Nat) (news : List Value) (hx : a.eval x = .slice A2 m c2) (hl : news.length = m * size) (hr : Rd w B A2 news) (h1 : ∀ u ∈ news, u.oneCell' = true)
    (h63 : n + m ≤ maxLen) (hbytes : (n + m) * bytes ≤ 140737488355328) (hbase : base ≤ w.heap.size)
    (h : ∀ A' c' w', Own w' base e size A' (n + m) c' (xs ++ news) → w.grownBy w' (blkOf A) → (blkOf A' = blkOf A ∨ blkOf A' = some w.heap.size) → K (a.put o.dst (.slice A' (n + m) c')) w') : o.wp P a w K Q := by
  obtain ⟨A', c', w', hrun, h2, h3, h4⟩ := run_app (P := P) w base t o.type e z size bytes ht hinfo hzs hsz A n c xs hown B A2 m c2 news hl hr h1 h63 hbytes hbase
  unfold Oper.wp execOp
  simp only [ho, resolve, invoke, builtin, Sem.run_bind, Sem.run_pure, Result.andThen_ok, List.map_toArray, List.map_cons, List.map_nil, hs, hx, hrun]
  exact h A' c' w' h2 h3 h4

theorem wpList_app {ops : Array Oper} {rest : List Oper} {o : Oper} {a : Act} {Q : Exit → Act → World → Prop} (hgd : o.guard = none) (s x : Operand) (t : TypeId)
    (ho : o.op = .call { callee := .builtin .append, args := #[s, x], argTypes := #[t, t] })
    (base : Nat) (e : TypeId) (z : Value) (size bytes : Nat) (ht : P.underlying t = some (.slice e)) (hinfo : (P.info? e).map (fun i => (i.zero, i.size, i.bytes)) = some (some z, size, bytes))
    (hzs : z.cells.size = size) (hsz : 0 < size)
    (A : Option Addr) (n c : Nat) (xs : List Value) (hs : a.eval s = .slice A n c) (hown : Own w base e size A n c xs)
    (B : Nat) (A2 : Option Addr) (m c2 : Nat) (news : List Value) (hx : a.eval x = .slice A2 m c2) (hl : news.length = m * size) (hr : Rd w B A2 news) (h1 : ∀ u ∈ news, u.oneCell' = true)
    (h63 : n + m ≤ maxLen) (hbytes : (n + m) * bytes ≤ 140737488355328) (hbase : base ≤ w.heap.size)
    (h : ∀ A' c' w', Own w' base e size A' (n + m) c' (xs ++ news) → w.grownBy w' (blkOf A) → (blkOf A' = blkOf A ∨ blkOf A' = some w.heap.size) → wpList P ops Q rest (a.put o.dst (.slice A' (n + m) c')) w') : wpList P ops Q (o :: rest) a w :=
  wpList_plain hgd fun _ hK => wp_app w s x t ho base e z size bytes ht hinfo hzs hsz A n c xs hs hown B A2 m c2 news hx hl hr h1 h63 hbytes hbase fun A' c' w' h2 h3 h4 => hK _ _ (h A' c' w' h2 h3 h4)

theorem step_app {ops : Array Oper} {o : Oper} {a : Act} {K : Act → World → Prop} {Q : Exit → Act → World → Prop} {E : Prop} (hgd : o.guard = none) (s x : Operand) (t : TypeId)
    (ho : o.op = .call { callee := .builtin .append, args := #[s, x], argTypes := #[t, t] })
    (base : Nat) (e : TypeId) (z : Value) (size bytes : Nat) (ht : P.underlying t = some (.slice e)) (hinfo : (P.info? e).map (fun i => (i.zero, i.size, i.bytes)) = some (some z, size, bytes))
    (hzs : z.cells.size = size) (hsz : 0 < size)
    (A : Option Addr) (n c : Nat) (xs : List Value) (hs : a.eval s = .slice A n c) (hown : Own w base e size A n c xs)
    (B : Nat) (A2 : Option Addr) (m c2 : Nat) (news : List Value) (hx : a.eval x = .slice A2 m c2) (hl : news.length = m * size) (hr : Rd w B A2 news) (h1 : ∀ u ∈ news, u.oneCell' = true)
    (h63 : n + m ≤ maxLen) (hbytes : (n + m) * bytes ≤ 140737488355328) (hbase : base ≤ w.heap.size)
    (h : ∀ A' c' w', Own w' base e size A' (n + m) c' (xs ++ news) → w.grownBy w' (blkOf A) → (blkOf A' = blkOf A ∨ blkOf A' = some w.heap.size) → K (a.put o.dst (.slice A' (n + m) c')) w') :
    if Region.wanted o (yielded ops a.tmps) = true then Oper.wp P o a w K Q else E := by
  have hw : Region.wanted o (yielded ops a.tmps) = true := by simp [Region.wanted, hgd]
  rw [if_pos hw]
  exact wp_app w s x t ho base e z size bytes ht hinfo hzs hsz A n c xs hs hown B A2 m c2 news hx hl hr h1 h63 hbytes hbase h
end

/-- Behind an append: what lay below is as it was. -/
theorem bel_app {W w w' : World} {A : Option Addr} {base : Nat} {e : TypeId} {size n c : Nat} {xs : List Value} (h : Below W.heap.size W w) (hown : Own w base e size A n c xs) (hb : W.heap.size ≤ base) (hg : w.grownBy w' (blkOf A)) : Below W.heap.size W w' :=
  h.grown hg h.size (fun k hk => by have := (hown.lt hk).1; omega)
/-- One cell, just laid. -/
theorem Rd.one (w : World) (u : Value) (t : TypeId) : Rd (w.alloc (.cells #[u] t)) (w.heap.size + 1) (some ⟨w.heap.size, 0, none⟩) [u] := fun _ =>
  ⟨w.heap.size, 0, rfl, by omega, fun i v hv => by
    rw [World.cell?_alloc_at _ _ _ _ rfl]
    match i, hv with
    | 0, hv => simpa using hv
    | i + 1, hv => simp at hv⟩
theorem one_one {u : Value} (h : u.oneCell' = true) : ∀ v ∈ [u], v.oneCell' = true := by
  intro v hv
  simp at hv
  subst hv
  exact h
theorem grown_trans_alloc {w w' : World} {o : Obj} {row : Option Nat} (h : (w.alloc o).grownBy w' row) : w.grownBy w' row :=
  ⟨h.os, h.tape, h.output, Nat.le_trans (by simp) h.size, fun k hk hne => (h.block k (by simp; omega) hne).trans (Below.heap_alloc w o k hk)⟩
/-- A block that the row is not. -/
theorem Blk.grown {w w' : World} {g : Nat} {t : TypeId} {cs : Array Value} {row : Option Nat} (h : Blk w g t cs) (hb : w.grownBy w' row) (hg : some g ≠ row) : Blk w' g t cs := (hb.block g h.lt hg).trans h
/-- Two blocks of different kinds are two. -/
theorem own_blk_ne {w : World} {base : Nat} {e : TypeId} {size n c : Nat} {A : Option Addr} {xs : List Value} {g : Nat} {t : TypeId} {cs : Array Value} (h : Own w base e size A n c xs) (hg : Blk w g t cs) (hne : e ≠ t) : some g ≠ blkOf A := by
  intro hh
  cases A with
  | none => simp [blkOf] at hh
  | some a =>
    obtain ⟨g', off, cur, rfl, _, hh', _⟩ := h.2.2.2.2 a rfl
    simp [blkOf] at hh
    subst hh
    unfold Blk at hg
    rw [hg] at hh'
    injection hh' with hh'
    injection hh' with _ ht
    exact hne ht.symm
/-- Cells stored over all of a block. -/
theorem Blk.setCells_ {w : World} {g : Nat} {t : TypeId} : ∀ (vs : List Value) (o : Nat) (w : World) (cur : Array Value), Blk w g t cur → Blk (w.setCells g o vs) g t ((vs.zipIdx o).foldl (fun c x => c.setIfInBounds x.2 x.1) cur)
  | [], _, _, _, h => h
  | v :: r, o, w, cur, h => by
    rw [World.setCells]
    exact Blk.setCells_ (w := w) r (o + 1) _ _ (h.set_ o v)
theorem setAll : ∀ (vs : List Value) (o : Nat) (cur : Array Value), o + vs.length = cur.size → (vs.zipIdx o).foldl (fun c x => c.setIfInBounds x.2 x.1) cur = (cur.toList.take o ++ vs).toArray
  | [], o, cur, h => by
    simp only [List.length_nil, Nat.add_zero] at h
    simp only [List.zipIdx_nil, List.foldl_nil, List.append_nil]
    rw [List.take_of_length_le (by rw [Array.length_toList]; omega), Array.toArray_toList]
  | v :: r, o, cur, h => by
    simp only [List.length_cons] at h
    rw [List.zipIdx_cons, List.foldl_cons, setAll r (o + 1) _ (by simp; omega)]
    simp only [Array.toList_setIfInBounds]
    congr 1
    have hl : o < cur.toList.length := by rw [Array.length_toList]; omega
    rw [List.take_set, List.take_succ_eq_append_getElem hl, List.set_append_right _ _ (by simp; omega)]
    have hz : o - min o cur.size = 0 := by omega
    simp [hz]
theorem grown_setCells (g : Nat) : ∀ (vs : List Value) (o : Nat) (w : World), w.grownBy (w.setCells g o vs) (some g)
  | [], _, w => ⟨rfl, rfl, rfl, Nat.le_refl _, fun _ _ _ => rfl⟩
  | v :: r, o, w => by
    rw [World.setCells]
    have h := grown_setCells g r (o + 1) (w.setCell ⟨g, o, none⟩ v)
    refine ⟨h.os, h.tape, h.output, Nat.le_trans (by simp [World.setCell]) h.size, fun k hk hne => (h.block k (by simpa [World.setCell] using hk) hne).trans (Below.heap_setCell w _ _ k (fun e => hne (by simpa using e)))⟩

/-- A store over all of a block that is known whole. -/
theorem wp_storeB {P : Program} {o : Oper} {a : Act} {w : World} {K : Act → World → Prop} {Q : Exit → Act → World → Prop} (ty : TypeId) (x y : Operand) (ho : o.op = .store ty x y)
    (g : Nat) (t : TypeId) (cur cs : Array Value) (hx : a.eval x = .pointer (some ⟨g, 0, none⟩)) (hy : a.eval y = .agg cs) (hB : Blk w g t cur) (hs : cur.size = cs.size)
    (hi : (P.info? ty).map (·.size) = some cs.size) (h1 : cs.all (·.oneCell') = true)
    (h : ∀ w', Blk w' g t cs → w.grownBy w' (some g) → K (a.put o.dst undef) w') : o.wp P a w K Q := by
  refine wp_store_mid ty x y ho g 0 cs hx hy (fun j hj => ⟨?_, hB.frozen _⟩) hi h1 (h _ ?_ (grown_setCells g _ 0 w))
  · rw [hB.cell]
    simp [hs, hj]
  · have := Blk.setCells_ (w := w) cs.toList 0 w cur hB
    rw [setAll cs.toList 0 cur (by simp [hs])] at this
    simpa using this
theorem wpList_storeB {P : Program} {ops : Array Oper} {rest : List Oper} {o : Oper} {a : Act} {w : World} {Q : Exit → Act → World → Prop} (hgd : o.guard = none) (ty : TypeId) (x y : Operand) (ho : o.op = .store ty x y)
    (g : Nat) (t : TypeId) (cur cs : Array Value) (hx : a.eval x = .pointer (some ⟨g, 0, none⟩)) (hy : a.eval y = .agg cs) (hB : Blk w g t cur) (hs : cur.size = cs.size)
    (hi : (P.info? ty).map (·.size) = some cs.size) (h1 : cs.all (·.oneCell') = true)
    (h : ∀ w', Blk w' g t cs → w.grownBy w' (some g) → wpList P ops Q rest (a.put o.dst undef) w') : wpList P ops Q (o :: rest) a w :=
  wpList_plain hgd fun _ hK => wp_storeB ty x y ho g t cur cs hx hy hB hs hi h1 fun w' h2 h3 => hK _ _ (h w' h2 h3)
/-- A result that lies in a block that is known whole. -/
theorem results_blk {P : Program} {fn : Func} {p : Tmp} {ty : TypeId} (h : fn.results = #[.cell p ty]) (tmps : Array Value) (w : World) (g : Nat) (t : TypeId) (cs : Array Value) (d : TypeDesc)
    (hp : tmps.getD p undef = .pointer (some ⟨g, 0, none⟩)) (hg : Blk w g t cs) (hu : P.underlying ty = some d) (hd : (match d with | .struct _ | .array _ _ => true | _ => false) = true) (hi : (P.info? ty).map (·.size) = some cs.size) :
    (results fn tmps).run P w = .ok (.agg cs) w := results_cell_row h tmps w g t cs (0, 0) d hp hg hu hd hi
theorem bel_grown {W w w' : World} {g : Nat} (h : Below W.heap.size W w) (hg : w.grownBy w' (some g)) (hb : W.heap.size ≤ g) : Below W.heap.size W w' :=
  h.grown hg h.size (fun k hk => by injection hk with hk; omega)
theorem wp_named {P : Program} {c : Code} {Q : Exit → Act → World → Prop} {a : Act} {w : World} (h : ∀ W, W = w → c.wp P Q a W) : c.wp P Q a w := h w rfl
theorem blk1 {w W : World} {c1 : Array Value} {t1 : TypeId} (h : W = w.alloc (.cells c1 t1)) : Blk W w.heap.size t1 c1 ∧ Below w.heap.size w W := by
  subst h
  exact ⟨Blk.new _ _ _, (Below.refl _ _).alloc (Nat.le_refl _) _⟩
theorem blk2 {w W : World} {c1 c2 : Array Value} {t1 t2 : TypeId} (h : W = (w.alloc (.cells c1 t1)).alloc (.cells c2 t2)) : Blk W w.heap.size t1 c1 ∧ Blk W (w.heap.size + 1) t2 c2 ∧ Below w.heap.size w W := by
  subst h
  refine ⟨(Blk.new _ _ _).alloc _, ?_, ((Below.refl _ _).alloc (Nat.le_refl _) _).alloc (by simp) _⟩
  have := Blk.new (w.alloc (.cells c1 t1)) t2 c2
  simpa using this
/-- What a block holds, in every world that has come of W by growth alone: a rule for the walk. -/
theorem Blk.rule {W : World} {g : Nat} {t : TypeId} {cs : Array Value} (h : Blk W g t cs) : ∀ w', Below W.heap.size W w' → ∀ i, w'.cell? ⟨g, i, none⟩ = cs[i]? := fun w' hb => (h.below hb).cell

def bstr (xs : List Int) : ByteArray := ⟨(xs.map fun n => UInt8.ofNat n.toNat).toArray⟩
theorem bstr_fold : ∀ (xs : List Int) (s : ByteArray), xs.foldl (fun r n => r.push (UInt8.ofNat n.toNat)) s = ⟨s.data ++ (xs.map fun n => UInt8.ofNat n.toNat).toArray⟩
  | [], s => by simp
  | x :: xs, s => by
    rw [List.foldl_cons, bstr_fold xs]
    congr 1
    apply Array.toList_inj.1
    simp [ByteArray.push]
theorem run_conv {P : Program} {src dst e : TypeId} (hs : P.underlying src = some (.slice e)) (he : P.underlying e = some (.int .u8)) (hd : P.underlying dst = some .string)
    (A : Option Addr) (xs : List Int) (n c B : Nat) (w : World) (h : Rd w B A (u8s xs)) (hn : n = xs.length) : (convert src dst (.slice A n c)).run P w = .ok (.string (bstr xs)) w := by
  subst hn
  rw [run_convert_bytes_string w src dst e A _ c hs he hd]
  by_cases h0 : xs = []
  · subst h0
    cases A with
    | none => simp [Conv.bytesToString, bstr]; rfl
    | some a =>
      have := run_bytesToString (P := P) w a 0 c [] (by simp [loadCells, loadCellsFrom])
      exact this
  · obtain ⟨b, o, rfl, _, hc⟩ := h (by simpa using h0)
    have hadd : ∀ j, (⟨b, o, none⟩ : Addr).add j = ⟨b, o + j, none⟩ := fun j => by unfold Addr.add; split <;> simp_all
    have hl := run_loadCells_list (P := P) w ⟨b, o, none⟩ (u8s xs) (fun j v hv => by rw [hadd]; exact hc j v hv)
    rw [List.length_map] at hl
    rw [run_bytesToString (P := P) w ⟨b, o, none⟩ xs.length c xs hl, bstr_fold]
    simp [bstr]
theorem bstr_toList (xs : List Int) : (bstr xs).toList = xs.map fun n => UInt8.ofNat n.toNat := by
  rw [ByteArray.toList_eq]; simp [bstr]
theorem byte_inj {x y : Int} (hx : 0 ≤ x ∧ x < 256) (hy : 0 ≤ y ∧ y < 256) (h : UInt8.ofNat x.toNat = UInt8.ofNat y.toNat) : x = y := by
  have := congrArg UInt8.toNat h
  simp only [UInt8.toNat_ofNat'] at this
  omega
theorem bytes_inj : ∀ (xs ys : List Int), (∀ x ∈ xs, 0 ≤ x ∧ x < 256) → (∀ x ∈ ys, 0 ≤ x ∧ x < 256) → (xs.map fun n => UInt8.ofNat n.toNat) = (ys.map fun n => UInt8.ofNat n.toNat) → xs = ys
  | [], [], _, _, _ => rfl
  | [], y :: ys, _, _, h => by simp at h
  | x :: xs, [], _, _, h => by simp at h
  | x :: xs, y :: ys, hx, hy, h => by
    simp only [List.map_cons, List.cons.injEq] at h
    rw [byte_inj (hx x (by simp)) (hy y (by simp)) h.1, bytes_inj xs ys (fun z hz => hx z (by simp [hz])) (fun z hz => hy z (by simp [hz])) h.2]
theorem bstr_beq (xs ys : List Int) (hx : ∀ x ∈ xs, 0 ≤ x ∧ x < 256) (hy : ∀ x ∈ ys, 0 ≤ x ∧ x < 256) : ((bstr xs).toList == (bstr ys).toList) = decide (xs = ys) := by
  rw [bstr_toList, bstr_toList, Bool.eq_iff_iff]
  simp only [beq_iff_eq, decide_eq_true_eq]
  exact ⟨bytes_inj xs ys hx hy, fun h => by rw [h]⟩
/-- Bytes of the call's own, as a string, in every world that has come by growth. -/
theorem Own.conv {P : Program} {src dst e : TypeId} (hs : P.underlying src = some (.slice e)) (he : P.underlying e = some (.int .u8)) (hd : P.underlying dst = some .string)
    {w : World} {base : Nat} {e' : TypeId} {A : Option Addr} {n n' c : Nat} {xs : List Int} (h : Own w base e' 1 A n' c (u8s xs)) (hn : n = xs.length) :
    ∀ w', Below w.heap.size w w' → (convert src dst (.slice A n c)).run P w' = .ok (.string (bstr xs)) w' := fun w' hb => run_conv hs he hd A xs n c _ w' (h.below hb).rd hn
theorem Rd.conv {P : Program} {src dst e : TypeId} (hs : P.underlying src = some (.slice e)) (he : P.underlying e = some (.int .u8)) (hd : P.underlying dst = some .string)
    {w : World} {B : Nat} {A : Option Addr} {n c : Nat} {xs : List Int} (h : Rd w B A (u8s xs)) (hB : B ≤ w.heap.size) (hn : n = xs.length) :
    ∀ w', Below w.heap.size w w' → (convert src dst (.slice A n c)).run P w' = .ok (.string (bstr xs)) w' := fun w' hb => run_conv hs he hd A xs n c _ w' (h.below (hb.mono hB)) hn

theorem bel_drewN {B : Nat} {w w' : World} (h : Below B w w') (n : Nat) : Below B w (w'.drewN n) := h.trans ⟨rfl, rfl, rfl, Nat.le_refl _, fun _ _ => rfl⟩
theorem Rd.al {w : World} {A : Option Addr} {vs : List Value} (h : Rd w w.heap.size A vs) (o : Obj) : Rd (w.alloc o) (w.alloc o).heap.size A vs := (h.alloc (Nat.le_refl _) o).more (by simp)
theorem ret_bool {a b : Bool} (h : a = b) : Ending.returned (.bool a) = .returned (.bool b) := by rw [h]
theorem ret_int {k : IntKind} {a b : Int} (h : a = b) : Ending.returned (.int k a) = .returned (.int k b) := by rw [h]
theorem u8s_one (xs : List Int) : ∀ u ∈ u8s xs, u.oneCell' = true := by
  intro u hu
  obtain ⟨a, _, rfl⟩ := List.mem_map.1 hu
  rfl
end Go.Proofs.Yteecgdbicokgoaa
