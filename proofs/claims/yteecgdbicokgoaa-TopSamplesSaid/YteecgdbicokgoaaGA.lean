/- Daq: what blocks of its own say when tables, entries, the pointer are laid. -/
import Derived.Test.YteecgdbicokgoaaG8
namespace Go.Proofs.Yteecgdbicokgoaa
open Go.RowKit
set_option linter.unusedVariables false
set_option linter.unusedSimpArgs false
set_option maxRecDepth 100000
theorem flatC_same {α : Type} (C : α → List Value) : ∀ (l : List α) (i : Nat) (x y : α), l[i]? = some x → C y = C x → flatC C (l.set i y) = flatC C l
  | [], i, x, y, h, _ => by simp at h
  | z :: l, 0, x, y, h, e => by simp at h; subst h; simp [flatC, e]
  | z :: l, i + 1, x, y, h, e => by rw [List.set_cons_succ, flatC, flatC, flatC_same C l i x y (by simpa using h) e]
section
variable {Φ : Who} {B : Nat} {w w1 w2 w3 w' : World} {q evs step c0 : Nat} {A0 P : Option Addr} {cl : List Lc} {pt : Option (Nat × Nat × Nat)}
theorem DXc.fresh (h : DXc Φ B w q evs step A0 c0 cl P pt) (hN : Nu Φ w) (hb : Below w.heap.size w w1) {A : Option Addr} (k : Nat × Nat) (hA : ∀ g, blkOf A = some g → w.heap.size ≤ g ∧ g < w1.heap.size) :
    DXc (paint Φ A k) B w1 q evs step A0 c0 cl P pt ∧ Ext B (fun _ => False) Φ (paint Φ A k) w w1 := by
  have hx := Ext.fresh (B := B) (k := k) (A := A) hN hb hA
  exact ⟨h.ext hx (fun j h => h), hx⟩
theorem SdD.in {q j : Nat} (h : j < 5 ∨ 10 ≤ j) : SdD q (q, j) := ⟨rfl, h⟩
theorem Ext.sd {Φ' : Who} {B q j : Nat} (h : Ext B (fun c => c = (q, j)) Φ Φ' w w') (hj : j < 5 ∨ 10 ≤ j) : Ext B (SdD q) Φ Φ' w w' := h.mono (Nat.le_refl _) fun c hc => by subst hc; exact SdD.in hj
theorem Ext.no_ {Φ' : Who} {B q : Nat} (h : Ext B (fun _ => False) Φ Φ' w w') : Ext B (SdD q) Φ Φ' w w' := h.mono (Nat.le_refl _) fun c hc => hc.elim
theorem q_ne {q j k : Nat} (h : j ≠ k) : ¬ ((q, j) : Nat × Nat) = (q, k) := fun hh => by simp at hh; exact h hh
/-- Another pointer. -/
theorem DXc.setP (h : DXc Φ B w q evs step A0 c0 cl P pt) (hN : Nu Φ w) (hb : Below w.heap.size w w1) {gp : Nat} (hgp : w.heap.size ≤ gp) {p : Nat × Nat × Nat} (hP : Blk w1 gp 213 #[.int .i64 p.1, .int .i64 p.2.1, .int .i64 p.2.2])
    (hg : w1.grownBy w' (some q)) (hB : Blk w' q 164 #[.int .i64 evs, .int .i64 step, .slice A0 cl.length c0, .pointer (some ⟨gp, 0, none⟩)]) : ∃ Φ', DXc Φ' B w' q evs step A0 c0 cl (some ⟨gp, 0, none⟩) (some p) ∧ Ext B (SdD q) Φ Φ' w w' := by
  obtain ⟨h1, hx⟩ := h.fresh hN hb (A := some ⟨gp, 0, none⟩) (q, 2) (fun g hg => by simp [blkOf] at hg; subst hg; exact ⟨hgp, hP.lt⟩)
  have hx2 := Ext.one hx.nu hg h1.b h1.own
  have hlt := h.blk.lt
  have hk : BlC (paint Φ (some ⟨gp, 0, none⟩) (q, 2)) (q, 2) w1 gp 213 #[.int .i64 p.1, .int .i64 p.2.1, .int .i64 p.2.2] := ⟨hP, paint_at rfl⟩
  exact ⟨_, ⟨h1.b, h1.own, hB, h1.row.ext hx2 (q_ne (by decide)), fun i x hx => (h1.tab i x hx).ext hx2 (q_ne (by omega)), fun i x k t hx ht => (h1.ent i x k t hx ht).ext hx2 (q_ne (by omega)), gp, rfl, Nat.le_trans h.b (by omega), hk.ext hx2 (q_ne (by decide))⟩, hx.no_.trans (hx2.sd (.inl (by decide)))⟩
/-- The Daq's own block and no other one of its was written. -/
theorem DXc.own0 (h : DXc Φ B w q evs step A0 c0 cl P pt) (hN : Nu Φ w) (hg : w.grownBy w' (some q)) {step' : Nat} (hB : Blk w' q 164 #[.int .i64 evs, .int .i64 step', .slice A0 cl.length c0, .pointer P]) : DXc Φ B w' q evs step' A0 c0 cl P pt ∧ Ext B (SdD q) Φ Φ w w' := by
  have hx := Ext.one hN hg h.b h.own
  exact ⟨h.set0 hx hB rfl, hx.sd (.inl (by decide))⟩
/-- The pointer is nowhere. -/
theorem DXc.noP (h : DXc Φ B w q evs step A0 c0 cl P pt) (hN : Nu Φ w) (hg : w.grownBy w' (some q)) (hB : Blk w' q 164 #[.int .i64 evs, .int .i64 step, .slice A0 cl.length c0, .pointer none]) : DXc Φ B w' q evs step A0 c0 cl none none ∧ Ext B (SdD q) Φ Φ w w' := by
  have hx := Ext.one hN hg h.b h.own
  exact ⟨⟨h.b, h.own, hB, h.row.ext hx (q_ne (by decide)), fun i x hx' => (h.tab i x hx').ext hx (q_ne (by omega)), fun i x k t hx' ht => (h.ent i x k t hx' ht).ext hx (q_ne (by omega)), rfl⟩, hx.sd (.inl (by decide))⟩
/-- The pointer's own block was written. -/
theorem DXc.movP {gp : Nat} {p : Nat × Nat × Nat} (h : DXc Φ B w q evs step A0 c0 cl (some ⟨gp, 0, none⟩) (some p)) (hN : Nu Φ w) {p' : Nat × Nat × Nat} (hg : w.grownBy w' (some gp)) (hB : Blk w' gp 213 #[.int .i64 p'.1, .int .i64 p'.2.1, .int .i64 p'.2.2]) : DXc Φ B w' q evs step A0 c0 cl (some ⟨gp, 0, none⟩) (some p') ∧ Ext B (SdD q) Φ Φ w w' := by
  obtain ⟨g, e, h1, h2⟩ := h.ptr
  simp only [Option.some.injEq, Addr.mk.injEq, and_true] at e
  subst e
  have hx := Ext.one hN hg h1 h2.2
  exact ⟨⟨h.b, h.own, (h.k0.ext hx (q_ne (by decide))).1, h.row.ext hx (q_ne (by decide)), fun i x hx' => (h.tab i x hx').ext hx (q_ne (by omega)), fun i x k t hx' ht => (h.ent i x k t hx' ht).ext hx (q_ne (by omega)), _, rfl, h1, hB, h2.2⟩, hx.sd (.inl (by decide))⟩
/-- Tables of a list that has none, laid. -/
theorem DXc.setT (h : DXc Φ B w q evs step A0 c0 cl P pt) (hN : Nu Φ w) (hb : Below w.heap.size w w1) {T : Option Addr} {m cT : Nat} (hT : Own w1 w.heap.size 74 1 T m cT (List.replicate m (.slice none 0 0))) {g o : Nat} (hA : A0 = some ⟨g, o, none⟩) {i : Nat} {x : Lc} (hx : cl[i]? = some x)
    (ho : Own w2 B 71 8 A0 cl.length c0 (putL (lcells cl) (i * 8 + 1) [.slice T m cT])) (hg : w1.grownBy w2 (some g)) : ∃ Φ', DXc Φ' B w2 q evs step A0 c0 (cl.set i { x with A := T, c := cT, tabs := List.replicate m ⟨none, 0, []⟩ }) P pt ∧ Ext B (SdD q) Φ Φ' w w2 := by
  subst hA
  obtain ⟨h1, hx1⟩ := h.fresh hN hb (A := T) (q, 10 + i) (fun g hg => hT.lt hg)
  have hgq := h1.row.2 g rfl
  have hgB := (h1.row.1.lt (g := g) rfl).1
  have hx2 := Ext.one hx1.nu hg hgB hgq
  have hB0 : B ≤ w.heap.size := Nat.le_trans h.b (Nat.le_of_lt h.blk.lt)
  have hT2 : Own w2 B 74 1 T m cT (List.replicate m (.slice none 0 0)) := (own_kept hT h1.row.1 (by decide) hg).more hB0
  have hcs : Lc.cs { x with A := T, c := cT, tabs := List.replicate m ⟨none, 0, []⟩ } = putL x.cs 1 [.slice T m cT] := by
    show _ = [_, Value.slice T m cT, _, _, _, _, _, _]
    unfold Lc.cs
    simp only [List.length_replicate]
  have hrow : lcells (cl.set i { x with A := T, c := cT, tabs := List.replicate m ⟨none, 0, []⟩ }) = putL (lcells cl) (i * 8 + 1) [.slice T m cT] := (flatC_put Lc.cs 8 cl (fun _ _ => rfl) i x _ hx 1 _ (by simp) hcs).symm
  have htc : ∀ m : Nat, tcells (List.replicate m ⟨none, 0, []⟩) = List.replicate m (.slice none 0 0) := fun m => by
    induction m with
    | zero => rfl
    | succ m ih => rw [List.replicate_succ, List.replicate_succ, tcells, flatC]; show _ :: flatC Tb.cs _ = _; rw [show flatC Tb.cs (List.replicate m ⟨none, 0, []⟩) = _ from ih]; rfl
  refine ⟨_, ⟨h1.b, h1.own, by rw [List.length_set]; exact (h1.k0.ext hx2 (q_ne (by decide))).1, by rw [List.length_set, hrow]; exact ⟨ho, h1.row.2⟩, fun j y hy => ?_, fun j y k t hy ht => ?_, h1.ptr.ext hx2 (q_ne (by decide))⟩, hx1.no_.trans (hx2.sd (.inl (by decide)))⟩
  · rcases set_get hx j hy with ⟨rfl, rfl⟩ | ⟨hj, hy⟩
    · show OwC _ _ _ _ _ _ T (List.replicate m ⟨none, 0, []⟩ : List Tb).length cT (tcells (List.replicate m ⟨none, 0, []⟩))
      rw [List.length_replicate, htc]
      exact ⟨hT2, fun g hg => paint_at hg⟩
    · exact (h1.tab j y hy).ext hx2 (q_ne (by omega))
  · rcases set_get hx j hy with ⟨rfl, rfl⟩ | ⟨hj, hy⟩
    · have ht' : t ∈ List.replicate m (⟨none, 0, []⟩ : Tb) := List.mem_of_getElem? ht
      rw [List.eq_of_mem_replicate ht']
      exact OwC.nil _ _ _ _ _ _
    · exact (h1.ent j y k t hy ht).ext hx2 (q_ne (by omega))
/-- Entries of a table that has none, laid. -/
theorem DXc.setE (h : DXc Φ B w q evs step A0 c0 cl P pt) (hN : Nu Φ w) (h4 : cl.length ≤ 4) (h16 : ∀ (j : Nat) (y : Lc), cl[j]? = some y → y.tabs.length ≤ 16) (hb : Below w.heap.size w w1) {E : Option Addr} {m cE : Nat} {es : List En} (hes : es.length = m) (hE : Own w1 w.heap.size 76 3 E m cE (ecells es)) {i k : Nat} {x : Lc} {t : Tb} (hx : cl[i]? = some x) (ht : x.tabs[k]? = some t) {g o : Nat} (hA : x.A = some ⟨g, o, none⟩)
    (ho : Own w2 B 74 1 x.A x.tabs.length x.c (putL (tcells x.tabs) (k * 1 + 0) [.slice E m cE])) (hg : w1.grownBy w2 (some g)) : ∃ Φ', DXc Φ' B w2 q evs step A0 c0 (cl.set i { x with tabs := x.tabs.set k ⟨E, cE, es⟩ }) P pt ∧ Ext B (SdD q) Φ Φ' w w2 := by
  subst hes
  obtain ⟨h1, hx1⟩ := h.fresh hN hb (A := E) (q, 20 + 16 * i + k) (fun g hg => hE.lt hg)
  have h1t := h1.tab i x hx
  have hgq := h1t.2 g (by rw [hA]; rfl)
  have hgB := (h1t.1.lt (g := g) (by rw [hA]; rfl)).1
  have hx2 := Ext.one hx1.nu hg hgB hgq
  have hi4 : k < x.tabs.length := (List.getElem?_eq_some_iff.1 ht).1
  have hk16 := h16 i x hx
  have hB0 : B ≤ w.heap.size := Nat.le_trans h.b (Nat.le_of_lt h.blk.lt)
  have hE2 : Own w2 B 76 3 E es.length cE (ecells es) := (own_kept hE h1t.1 (by decide) (by rw [hA]; exact hg)).more hB0
  have hcs : Lc.cs { x with tabs := x.tabs.set k ⟨E, cE, es⟩ } = x.cs := by
    unfold Lc.cs
    simp only [List.length_set]
  have hrow : tcells (x.tabs.set k ⟨E, cE, es⟩) = putL (tcells x.tabs) (k * 1 + 0) [.slice E es.length cE] := (flatC_put Tb.cs 1 x.tabs (fun _ _ => rfl) k t _ ht 0 _ (by simp) rfl).symm
  have hi : i < 4 := by have := (List.getElem?_eq_some_iff.1 hx).1; omega
  refine ⟨_, ⟨h1.b, h1.own, by rw [List.length_set]; exact (h1.k0.ext hx2 (q_ne (by omega))).1, by rw [List.length_set, lcells, flatC_same Lc.cs cl i x _ hx hcs]; exact h1.row.ext hx2 (q_ne (by omega)), fun j y hy => ?_, fun j y k' t' hy ht' => ?_, h1.ptr.ext hx2 (q_ne (by omega))⟩, hx1.no_.trans (hx2.sd (.inr (by omega)))⟩
  · rcases set_get hx j hy with ⟨rfl, rfl⟩ | ⟨hj, hy⟩
    · show OwC _ _ _ _ _ _ x.A (x.tabs.set k ⟨E, cE, es⟩).length x.c (tcells (x.tabs.set k ⟨E, cE, es⟩))
      rw [List.length_set, hrow]
      exact ⟨ho, h1t.2⟩
    · exact (h1.tab j y hy).ext hx2 (q_ne (by omega))
  · rcases set_get hx j hy with ⟨rfl, rfl⟩ | ⟨hj, hy⟩
    · have ht'' : (x.tabs.set k ⟨E, cE, es⟩)[k']? = some t' := ht'
      rcases set_get ht k' ht'' with ⟨rfl, rfl⟩ | ⟨hk, h3⟩
      · exact ⟨hE2, fun g hg => paint_at hg⟩
      · exact (h1.ent j x k' t' hx h3).ext hx2 (q_ne (by omega))
    · exact (h1.ent j y k' t' hy ht').ext hx2 (q_ne (by omega))
/-- An entry, written. -/
theorem DXc.setW (h : DXc Φ B w q evs step A0 c0 cl P pt) (hN : Nu Φ w) (h4 : cl.length ≤ 4) (h16 : ∀ (j : Nat) (y : Lc), cl[j]? = some y → y.tabs.length ≤ 16) {i k z : Nat} {x : Lc} {t : Tb} (hx : cl[i]? = some x) (ht : x.tabs[k]? = some t) (hz : z < t.es.length) {g o : Nat} (hA : t.A = some ⟨g, o, none⟩) {e : En}
    (ho : Own w' B 76 3 t.A t.es.length t.c (putL (ecells t.es) (z * 3 + 0) e.cs)) (hg : w.grownBy w' (some g)) : DXc Φ B w' q evs step A0 c0 (cl.set i { x with tabs := x.tabs.set k { t with es := t.es.set z e } }) P pt ∧ Ext B (SdD q) Φ Φ w w' := by
  have h1t := h.ent i x k t hx ht
  have hgq := h1t.2 g (by rw [hA]; rfl)
  have hgB := (h1t.1.lt (g := g) (by rw [hA]; rfl)).1
  have hx2 := Ext.one hN hg hgB hgq
  have hk1 : k < x.tabs.length := (List.getElem?_eq_some_iff.1 ht).1
  have hk16 := h16 i x hx
  have hi : i < 4 := by have := (List.getElem?_eq_some_iff.1 hx).1; omega
  obtain ⟨e0, he0⟩ : ∃ e0, t.es[z]? = some e0 := ⟨_, List.getElem?_eq_getElem hz⟩
  have hrow : ecells (t.es.set z e) = putL (ecells t.es) (z * 3 + 0) e.cs := (flatC_put En.cs 3 t.es (fun _ _ => rfl) z e0 e he0 0 _ (by simp) rfl).symm
  have htcs : Tb.cs { t with es := t.es.set z e } = t.cs := by
    unfold Tb.cs
    simp only [List.length_set]
  have hcs : Lc.cs { x with tabs := x.tabs.set k { t with es := t.es.set z e } } = x.cs := by
    unfold Lc.cs
    simp only [List.length_set]
  refine ⟨⟨h.b, h.own, by rw [List.length_set]; exact (h.k0.ext hx2 (q_ne (by omega))).1, by rw [List.length_set, lcells, flatC_same Lc.cs cl i x _ hx hcs]; exact h.row.ext hx2 (q_ne (by omega)), fun j y hy => ?_, fun j y k' t' hy ht' => ?_, h.ptr.ext hx2 (q_ne (by omega))⟩, hx2.sd (.inr (by omega))⟩
  · rcases set_get hx j hy with ⟨rfl, rfl⟩ | ⟨hj, hy⟩
    · show OwC _ _ _ _ _ _ x.A (x.tabs.set k _).length x.c (tcells (x.tabs.set k _))
      rw [List.length_set, tcells, flatC_same Tb.cs x.tabs k t _ ht htcs]
      exact (h.tab j x hx).ext hx2 (q_ne (by omega))
    · have hj4 : j < 4 := by have := (List.getElem?_eq_some_iff.1 hy).1; omega
      exact (h.tab j y hy).ext hx2 (q_ne (by omega))
  · rcases set_get hx j hy with ⟨rfl, rfl⟩ | ⟨hj, hy⟩
    · have ht'' : (x.tabs.set k { t with es := t.es.set z e })[k']? = some t' := ht'
      rcases set_get ht k' ht'' with ⟨rfl, rfl⟩ | ⟨hk, h3⟩
      · show OwC _ _ _ _ _ _ t.A (t.es.set z e).length t.c (ecells (t.es.set z e))
        rw [List.length_set, hrow]
        exact ⟨ho, h1t.2⟩
      · exact (h.ent j x k' t' hx h3).ext hx2 (q_ne (by omega))
    · have hk' := h16 j y hy
      have hkk : k' < y.tabs.length := (List.getElem?_eq_some_iff.1 ht').1
      exact (h.ent j y k' t' hy ht').ext hx2 (q_ne (by omega))
end
end Go.Proofs.Yteecgdbicokgoaa
