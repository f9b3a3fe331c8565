/- Stores into rows and blocks of the call's own, of one cell or of many; rows of structs with a struct replaced. -/
import Derived.Test.YteecgdbicokgoaaRow
import Derived.Test.YteecgdbicokgoaaCol
namespace Go.Proofs.Yteecgdbicokgoaa
open Go.RowKit
set_option linter.unusedVariables false
set_option linter.unusedSimpArgs false
/-- The cells from p on replaced. -/
def putL (xs : List Value) : Nat → List Value → List Value
  | _, [] => xs
  | p, v :: r => putL (xs.set p v) (p + 1) r
theorem putL_len : ∀ (cs : List Value) (p : Nat) (xs : List Value), (putL xs p cs).length = xs.length
  | [], _, _ => rfl
  | v :: r, p, xs => by rw [putL, putL_len r]; simp
theorem putL_app : ∀ (cs : List Value) (p : Nat) (ys xs : List Value), putL (ys ++ xs) (ys.length + p) cs = ys ++ putL xs p cs
  | [], _, _, _ => rfl
  | v :: r, p, ys, xs => by
    rw [putL, putL, List.set_append_right _ _ (by omega), show ys.length + p - ys.length = p by omega, Nat.add_assoc]
    exact putL_app r (p + 1) ys _
theorem putL_left : ∀ (cs : List Value) (p : Nat) (ys xs : List Value), p + cs.length ≤ ys.length → putL (ys ++ xs) p cs = putL ys p cs ++ xs
  | [], _, _, _, _ => rfl
  | v :: r, p, ys, xs, h => by
    simp only [List.length_cons] at h
    rw [putL, putL, List.set_append_left _ _ (by omega)]
    exact putL_left r (p + 1) _ xs (by simp; omega)
/-- A struct of a row of structs replaced. -/
theorem flatC_put {α : Type} (C : α → List Value) (K : Nat) : ∀ (l : List α) (_ : ∀ t ∈ l, (C t).length = K) (k : Nat) (t t' : α), l[k]? = some t → ∀ j cs, j + cs.length ≤ K → C t' = putL (C t) j cs → putL (flatC C l) (k * K + j) cs = flatC C (l.set k t')
  | [], _, k, t, t', h, j, cs, hj, hc => by simp at h
  | t0 :: l, hl, 0, t, t', h, j, cs, hj, hc => by
    simp at h
    subst h
    have hk : (C t0).length = K := hl t0 (by simp)
    rw [Nat.zero_mul, Nat.zero_add, List.set_cons_zero, flatC, flatC, hc]
    exact putL_left cs j (C t0) _ (by omega)
  | t0 :: l, hl, k + 1, t, t', h, j, cs, hj, hc => by
    have hk : (C t0).length = K := hl t0 (by simp)
    rw [List.set_cons_succ, flatC, flatC, show (k + 1) * K + j = (C t0).length + (k * K + j) by rw [hk, Nat.succ_mul]; omega, putL_app]
    rw [flatC_put C K l (fun t ht => hl t (by simp [ht])) k t t' (by simpa using h) j cs hj hc]
section
variable {P : Program} {w : World} {base : Nat} {e : TypeId} {size : Nat} {n c : Nat}
theorem Own.cells_ {g off : Nat} : ∀ (cs : List Value) (p : Nat) (w : World) (xs : List Value), Own w base e size (some ⟨g, off, none⟩) n c xs → p + cs.length ≤ n * size → Own (w.setCells g (off + p) cs) base e size (some ⟨g, off, none⟩) n c (putL xs p cs)
  | [], _, _, _, h, _ => h
  | v :: r, p, w, xs, h, hp => by
    simp only [List.length_cons] at hp
    rw [World.setCells, putL, Nat.add_assoc]
    exact Own.cells_ r (p + 1) _ _ (h.set_ p (by omega) v) (by omega)
theorem Blk.cells_ {g : Nat} {t : TypeId} : ∀ (cs : List Value) (p : Nat) (w : World) (cur : Array Value), Blk w g t cur → Blk (w.setCells g p cs) g t (putL cur.toList p cs).toArray
  | [], _, _, _, h => by rw [World.setCells]; simpa [putL] using h
  | v :: r, p, w, cur, h => by
    rw [World.setCells]
    have := Blk.cells_ r (p + 1) _ _ (h.set_ p v)
    simpa [putL] using this
theorem run_storeVar_any (w : World) (b o : Nat) (ty : TypeId) (v : Value) (ht : w.there b o v.cells.size) (hi : (P.info? ty).map (·.size) = some v.cells.size) (h1 : v.cells.all (·.oneCell') = true) :
    (storeVar ty ⟨b, o, none⟩ v).run P w = .ok () (w.setCells b o v.cells.toList) := by
  have := run_storeCells_cells (P := P) b o v.cells.toList 0 w (fun j hj => by simpa using (ht j (by simpa using hj)).1) (fun j hj => by simpa using (ht j (by simpa using hj)).2)
    (fun v hv => (Array.all_eq_true_iff_forall_mem.1 h1) v (by simpa using hv))
  cases hq : P.info? ty with
  | none => simp [hq] at hi
  | some i =>
    have hs : v.cells.size = i.size := by simp [hq] at hi; omega
    simp only [Nat.add_zero] at this
    simp [storeVar, sizeOf, typeInfo, hq, hs, this]
theorem wp_stAny {op : Oper} {a : Act} {K : Act → World → Prop} {Q : Exit → Act → World → Prop} (ty : TypeId) (x y : Operand) (ho : op.op = .store ty x y)
    (b o : Nat) (v : Value) (hx : a.eval x = .pointer (some ⟨b, o, none⟩)) (hy : a.eval y = v)
    (ht : w.there b o v.cells.size) (hi : (P.info? ty).map (·.size) = some v.cells.size) (h1 : v.cells.all (·.oneCell') = true)
    (h : K (a.put op.dst undef) (w.setCells b o v.cells.toList)) : op.wp P a w K Q := by
  unfold Oper.wp execOp
  simp only [ho, hx, hy, Instr.storeAt, Instr.sureAddr, Sem.run_bind, Sem.run_pure, Result.andThen_ok, run_storeVar_any w b o ty v ht hi h1]
  exact h
/-- A store into a row of the call's own. -/
theorem wp_stO {op : Oper} {a : Act} {K : Act → World → Prop} {Q : Exit → Act → World → Prop} (ty : TypeId) (x y : Operand) (ho : op.op = .store ty x y) (v : Value) {g off : Nat} {xs : List Value} (p : Nat)
    (hx : a.eval x = .pointer (some ⟨g, off + p, none⟩)) (hy : a.eval y = v) (hO : Own w base e size (some ⟨g, off, none⟩) n c xs) (hp : p + v.cells.size ≤ n * size)
    (hi : (P.info? ty).map (·.size) = some v.cells.size) (h1 : v.cells.all (·.oneCell') = true)
    (h : ∀ w', Own w' base e size (some ⟨g, off, none⟩) n c (putL xs p v.cells.toList) → w.grownBy w' (some g) → K (a.put op.dst undef) w') : op.wp P a w K Q := by
  refine wp_stAny ty x y ho g (off + p) v hx hy (fun j hj => ⟨?_, hO.frozen _⟩) hi h1 (h _ (Own.cells_ _ p w xs hO (by simpa using hp)) (grown_setCells g _ _ w))
  have hl : p + j < xs.length := by rw [hO.1]; omega
  rw [Nat.add_assoc, hO.cells (p + j) _ (List.getElem?_eq_getElem hl)]
  rfl
theorem wpList_stO {ops : Array Oper} {rest : List Oper} {op : Oper} {a : Act} {Q : Exit → Act → World → Prop} (hgd : op.guard = none) (ty : TypeId) (x y : Operand) (ho : op.op = .store ty x y) (v : Value) {g off : Nat} {xs : List Value} (p : Nat)
    (hx : a.eval x = .pointer (some ⟨g, off + p, none⟩)) (hy : a.eval y = v) (hO : Own w base e size (some ⟨g, off, none⟩) n c xs) (hp : p + v.cells.size ≤ n * size)
    (hi : (P.info? ty).map (·.size) = some v.cells.size) (h1 : v.cells.all (·.oneCell') = true)
    (h : ∀ w', Own w' base e size (some ⟨g, off, none⟩) n c (putL xs p v.cells.toList) → w.grownBy w' (some g) → wpList P ops Q rest (a.put op.dst undef) w') : wpList P ops Q (op :: rest) a w :=
  wpList_plain hgd fun _ hK => wp_stO ty x y ho v p hx hy hO hp hi h1 fun w' h2 h3 => hK _ _ (h w' h2 h3)
/-- A store into a block that is known whole. -/
theorem wp_stB {op : Oper} {a : Act} {K : Act → World → Prop} {Q : Exit → Act → World → Prop} (ty : TypeId) (x y : Operand) (ho : op.op = .store ty x y) (v : Value) {g : Nat} {t : TypeId} {cur : Array Value} (p : Nat)
    (hx : a.eval x = .pointer (some ⟨g, p, none⟩)) (hy : a.eval y = v) (hB : Blk w g t cur) (hp : p + v.cells.size ≤ cur.size)
    (hi : (P.info? ty).map (·.size) = some v.cells.size) (h1 : v.cells.all (·.oneCell') = true)
    (h : ∀ w', Blk w' g t (putL cur.toList p v.cells.toList).toArray → w.grownBy w' (some g) → K (a.put op.dst undef) w') : op.wp P a w K Q := by
  refine wp_stAny ty x y ho g p v hx hy (fun j hj => ⟨?_, hB.frozen _⟩) hi h1 (h _ (Blk.cells_ _ p w cur hB) (grown_setCells g _ _ w))
  rw [hB.cell, Array.getElem?_eq_getElem (by omega)]
  rfl
theorem wpList_stB {ops : Array Oper} {rest : List Oper} {op : Oper} {a : Act} {Q : Exit → Act → World → Prop} (hgd : op.guard = none) (ty : TypeId) (x y : Operand) (ho : op.op = .store ty x y) (v : Value) {g : Nat} {t : TypeId} {cur : Array Value} (p : Nat)
    (hx : a.eval x = .pointer (some ⟨g, p, none⟩)) (hy : a.eval y = v) (hB : Blk w g t cur) (hp : p + v.cells.size ≤ cur.size)
    (hi : (P.info? ty).map (·.size) = some v.cells.size) (h1 : v.cells.all (·.oneCell') = true)
    (h : ∀ w', Blk w' g t (putL cur.toList p v.cells.toList).toArray → w.grownBy w' (some g) → wpList P ops Q rest (a.put op.dst undef) w') : wpList P ops Q (op :: rest) a w :=
  wpList_plain hgd fun _ hK => wp_stB ty x y ho v p hx hy hB hp hi h1 fun w' h2 h3 => hK _ _ (h w' h2 h3)
end
/-- Where only one of the owner's blocks was written. -/
theorem Ext.one {B : Nat} {Φ : Who} {w w' : World} {k : Nat × Nat} {g : Nat} (hN : Nu Φ w) (hg : w.grownBy w' (some g)) (hB : B ≤ g) (hk : Φ g = k) : Ext B (fun c => c = k) Φ Φ w w' :=
  ⟨fun _ _ => rfl, hN.more hg.size, (Chg.of_grown hg).mono fun i _ hi => by injection hi with hi; subst hi; exact ⟨hB, hk⟩⟩
theorem Ext.fresh {B : Nat} {Φ : Who} {w w' : World} {k : Nat × Nat} {A : Option Addr} (hN : Nu Φ w) (hb : Below w.heap.size w w') (hA : ∀ g, blkOf A = some g → w.heap.size ≤ g ∧ g < w'.heap.size) : Ext B (fun _ => False) Φ (Go.Proofs.Yteecgdbicokgoaa.paint Φ A k) w w' :=
  (Ext.of_below hN hb).paint fun g hg => ⟨(hA g hg).2, fun hlt => by have := (hA g hg).1; omega⟩
end Go.Proofs.Yteecgdbicokgoaa
