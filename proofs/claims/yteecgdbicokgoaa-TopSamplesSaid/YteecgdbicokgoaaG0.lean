/- Lists of what is measured: plain data, and in memory. -/
import Derived.Test.YteecgdbicokgoaaSto
namespace Go.Proofs.Yteecgdbicokgoaa
open Go.RowKit
set_option linter.unusedVariables false
set_option linter.unusedSimpArgs false
set_option maxRecDepth 100000
/-- An entry. -/
structure En where
  size : Int
  area : Int
  pl : Int
abbrev En.cs (e : En) : List Value := [.int .u8 e.size, .int .u8 e.area, .int .u32 e.pl]
structure En.wf (e : En) : Prop where
  s0 : 0 ≤ e.size
  s1 : e.size < 256
  a0 : 0 ≤ e.area
  a1 : e.area < 256
  p0 : 0 ≤ e.pl
  p1 : e.pl < 4294967296
abbrev ecells (l : List En) : List Value := flatC En.cs l
/-- A table, and where it lies. -/
structure Tb where
  A : Option Addr
  c : Nat
  es : List En
abbrev Tb.cs (t : Tb) : List Value := [.slice t.A t.es.length t.c]
abbrev tcells (l : List Tb) : List Value := flatC Tb.cs l
/-- A list, and where its tables lie. -/
structure Lc where
  A : Option Addr
  c : Nat
  tabs : List Tb
  first : Int
  stim : Bool
  ev : Int
  pre : Int
  pri : Int
  on : Bool
  ch : Bool
abbrev Lc.cs (l : Lc) : List Value := [.int .i64 l.first, .slice l.A l.tabs.length l.c, .bool l.stim, .int .u8 l.ev, .int .u8 l.pre, .int .u8 l.pri, .bool l.on, .bool l.ch]
abbrev lcells (l : List Lc) : List Value := flatC Lc.cs l
/-- A list, as plain data. -/
structure Ls where
  tabs : List (List En)
  first : Int
  stim : Bool
  ev : Int
  pre : Int
  pri : Int
  on : Bool
  ch : Bool
def Tb.ab (t : Tb) : List En := t.es
def Lc.ab (l : Lc) : Ls := ⟨l.tabs.map Tb.ab, l.first, l.stim, l.ev, l.pre, l.pri, l.on, l.ch⟩
def abs (l : List Lc) : List Ls := l.map Lc.ab
theorem abs_len (l : List Lc) : (abs l).length = l.length := by simp [abs]
theorem abs_get {l : List Lc} {i : Nat} {x : Lc} (h : l[i]? = some x) : (abs l)[i]? = some x.ab := by simp [abs, h]
theorem ecells_len (l : List En) : (ecells l).length = l.length * 3 := flatC_len En.cs 3 l (fun _ _ => rfl)
theorem tcells_len (l : List Tb) : (tcells l).length = l.length := by have := flatC_len Tb.cs 1 l (fun _ _ => rfl); simpa using this
theorem lcells_len (l : List Lc) : (lcells l).length = l.length * 8 := flatC_len Lc.cs 8 l (fun _ _ => rfl)
theorem ecells_at {l : List En} {k : Nat} {t : En} (h : l[k]? = some t) {j : Nat} {u : Value} (hu : t.cs[j]? = some u) : (ecells l)[k * 3 + j]? = some u := flatC_at En.cs 3 l (fun _ _ => rfl) k t h j u hu
theorem tcells_at {l : List Tb} {k : Nat} {t : Tb} (h : l[k]? = some t) : (tcells l)[k]? = some (.slice t.A t.es.length t.c) := by
  have := flatC_at Tb.cs 1 l (fun _ _ => rfl) k t h 0 _ rfl
  simpa using this
theorem lcells_at {l : List Lc} {k : Nat} {t : Lc} (h : l[k]? = some t) {j : Nat} {u : Value} (hu : t.cs[j]? = some u) : (lcells l)[k * 8 + j]? = some u := flatC_at Lc.cs 8 l (fun _ _ => rfl) k t h j u hu
theorem ecells_one (l : List En) : ∀ v ∈ ecells l, v.oneCell' = true := by
  induction l with
  | nil => intro v hv; cases hv
  | cons t l ih =>
    intro v hv
    rcases List.mem_append.1 hv with h | h
    · simp only [En.cs, List.mem_cons, List.not_mem_nil, or_false] at h
      rcases h with rfl | rfl | rfl <;> rfl
    · exact ih v h
theorem tcells_one (l : List Tb) : ∀ v ∈ tcells l, v.oneCell' = true := by
  induction l with
  | nil => intro v hv; cases hv
  | cons t l ih =>
    intro v hv
    rcases List.mem_append.1 hv with h | h
    · simp only [Tb.cs, List.mem_cons, List.not_mem_nil, or_false] at h
      rcases h with rfl; rfl
    · exact ih v h
theorem lcells_one (l : List Lc) : ∀ v ∈ lcells l, v.oneCell' = true := by
  induction l with
  | nil => intro v hv; cases hv
  | cons t l ih =>
    intro v hv
    rcases List.mem_append.1 hv with h | h
    · simp only [Lc.cs, List.mem_cons, List.not_mem_nil, or_false] at h
      rcases h with rfl | rfl | rfl | rfl | rfl | rfl | rfl | rfl <;> rfl
    · exact ih v h
theorem info43 : (Try.prog.info? 76).map (fun i => (i.zero, i.size, i.bytes)) = some (some (.agg #[.int .u8 0, .int .u8 0, .int .u32 0]), 3, 8) := by kernel_rfl
theorem info41 : (Try.prog.info? 74).map (fun i => (i.zero, i.size, i.bytes)) = some (some (.slice none 0 0), 1, 24) := by kernel_rfl
theorem info40 : (Try.prog.info? 71).map (fun i => (i.zero, i.size, i.bytes)) = some (some (.agg #[.int .i64 0, .slice none 0 0, .bool false, .int .u8 0, .int .u8 0, .int .u8 0, .bool false, .bool false]), 8, 40) := by kernel_rfl
/-- Lists that read so: their row, their tables' rows, their entries' rows. -/
structure RL (w : World) (A : Option Addr) (l : List Lc) : Prop where
  row : Rd w w.heap.size A (lcells l)
  tab : ∀ (i : Nat) (x : Lc), l[i]? = some x → Rd w w.heap.size x.A (tcells x.tabs)
  ent : ∀ (i : Nat) (x : Lc) (k : Nat) (t : Tb), l[i]? = some x → x.tabs[k]? = some t → Rd w w.heap.size t.A (ecells t.es)
theorem Rd.bel {w w' : World} {A : Option Addr} {vs : List Value} (h : Rd w w.heap.size A vs) (hb : Below w.heap.size w w') : Rd w' w'.heap.size A vs := (h.below hb).more hb.size
theorem RL.below {w w' : World} {A : Option Addr} {l : List Lc} (h : RL w A l) (hb : Below w.heap.size w w') : RL w' A l :=
  ⟨h.row.bel hb, fun i x hx => (h.tab i x hx).bel hb, fun i x k t hx ht => (h.ent i x k t hx ht).bel hb⟩
/-- Small enough. -/
structure LL (l : List Ls) : Prop where
  n : l.length ≤ 4
  t : ∀ x ∈ l, x.tabs.length ≤ 16
  e : ∀ x ∈ l, ∀ t ∈ x.tabs, t.length ≤ 7
/-- All that a Daq says. -/
structure Dq where
  evs : Nat
  step : Nat
  ls : List Ls
  ptr : Option (Nat × Nat × Nat)
def manyT (l : List Ls) : Nat := (l.map fun x => x.tabs.length).sum
structure Dq.ok (a : Dq) : Prop where
  e1 : 1 ≤ a.evs
  e4 : a.evs ≤ 4
  s3 : a.step ≤ 3
  n4 : a.ls.length ≤ 4
  m16 : manyT a.ls ≤ 16
  t7 : ∀ x ∈ a.ls, ∀ t ∈ x.tabs, t.length ≤ 7
  f0 : ∀ x ∈ a.ls, x.first = 0
  wf : ∀ x ∈ a.ls, ∀ t ∈ x.tabs, ∀ e ∈ t, e.wf
  z0 : a.step = 0 → a.ls = []
  pp : ∀ p, a.ptr = some p → ∃ (x : Ls) (t : List En), a.ls[p.1]? = some x ∧ x.tabs[p.2.1]? = some t ∧ p.2.2 < t.length
theorem many_get : ∀ (l : List Ls) (i : Nat) (x : Ls), l[i]? = some x → x.tabs.length ≤ manyT l
  | [], i, x, h => by simp at h
  | y :: l, 0, x, h => by simp at h; subst h; simp [manyT]
  | y :: l, i + 1, x, h => by
    have := many_get l i x (by simpa using h)
    simp only [manyT, List.map_cons, List.sum_cons] at this ⊢
    omega
theorem Dq.ok.ll {a : Dq} (h : a.ok) : LL a.ls := ⟨h.n4, fun x hx => by
  obtain ⟨i, hi⟩ := List.mem_iff_getElem?.1 hx
  exact Nat.le_trans (many_get _ i x hi) h.m16, h.t7⟩
/-- What calls on the Daq at q may write. -/
def SdD (q : Nat) (c : Nat × Nat) : Prop := c.1 = q ∧ (c.2 < 5 ∨ 10 ≤ c.2)
theorem SdD.no (q a : Nat) {b : Nat} (h1 : 5 ≤ b) (h2 : b < 10) : ¬ SdD q (a, b) := fun h => by have := h.2; simp only at this; omega
theorem SdD.ne {q a b : Nat} (h : a ≠ q) : ¬ SdD q (a, b) := fun hh => h hh.1
/-- The pointer. -/
def PtX (Φ : Who) (B : Nat) (w : World) (q : Nat) (P : Option Addr) : Option (Nat × Nat × Nat) → Prop
  | none => P = none
  | some p => ∃ g, P = some ⟨g, 0, none⟩ ∧ B ≤ g ∧ BlC Φ (q, 2) w g 213 #[.int .i64 p.1, .int .i64 p.2.1, .int .i64 p.2.2]
/-- A Daq in memory, and whose its blocks are. -/
structure DXc (Φ : Who) (B : Nat) (w : World) (q : Nat) (evs step : Nat) (A0 : Option Addr) (c0 : Nat) (cl : List Lc) (P : Option Addr) (pt : Option (Nat × Nat × Nat)) : Prop where
  b : B ≤ q
  own : Φ q = (q, 0)
  blk : Blk w q 164 #[.int .i64 evs, .int .i64 step, .slice A0 cl.length c0, .pointer P]
  row : OwC Φ (q, 1) w B 71 8 A0 cl.length c0 (lcells cl)
  tab : ∀ (i : Nat) (x : Lc), cl[i]? = some x → OwC Φ (q, 10 + i) w B 74 1 x.A x.tabs.length x.c (tcells x.tabs)
  ent : ∀ (i : Nat) (x : Lc) (k : Nat) (t : Tb), cl[i]? = some x → x.tabs[k]? = some t → OwC Φ (q, 20 + 16 * i + k) w B 76 3 t.A t.es.length t.c (ecells t.es)
  ptr : PtX Φ B w q P pt
def DX (Φ : Who) (B : Nat) (w : World) (q : Nat) (a : Dq) : Prop := a.ok ∧ ∃ A0 c0 cl P, abs cl = a.ls ∧ DXc Φ B w q a.evs a.step A0 c0 cl P a.ptr
section
variable {Φ Φ' : Who} {B : Nat} {w w' : World} {q evs step c0 : Nat} {A0 P : Option Addr} {cl : List Lc} {pt : Option (Nat × Nat × Nat)} {a : Dq} {S : Nat × Nat → Prop}
theorem PtX.ext (h : PtX Φ B w q P pt) (he : Ext B S Φ Φ' w w') (hS : ¬ S (q, 2)) : PtX Φ' B w' q P pt := by
  cases pt with
  | none => exact h
  | some p =>
    obtain ⟨g, h1, h2, h3⟩ := h
    exact ⟨g, h1, h2, h3.ext he hS⟩
theorem PtX.below (h : PtX Φ B w q P pt) (hb : Below w.heap.size w w') : PtX Φ B w' q P pt := by
  cases pt with
  | none => exact h
  | some p =>
    obtain ⟨g, h1, h2, h3⟩ := h
    exact ⟨g, h1, h2, h3.below hb⟩
theorem DXc.below (h : DXc Φ B w q evs step A0 c0 cl P pt) (hb : Below w.heap.size w w') : DXc Φ B w' q evs step A0 c0 cl P pt :=
  ⟨h.b, h.own, h.blk.below hb, h.row.below hb, fun i x hx => (h.tab i x hx).below hb, fun i x k t hx ht => (h.ent i x k t hx ht).below hb, h.ptr.below hb⟩
theorem DXc.ext (h : DXc Φ B w q evs step A0 c0 cl P pt) (he : Ext B S Φ Φ' w w') (hS : ∀ j, ¬ S (q, j)) : DXc Φ' B w' q evs step A0 c0 cl P pt := by
  have h0 : BlC Φ (q, 0) w q 164 _ := ⟨h.blk, h.own⟩
  obtain ⟨k1, k2⟩ := h0.ext he (hS 0)
  exact ⟨h.b, k2, k1, h.row.ext he (hS 1), fun i x hx => (h.tab i x hx).ext he (hS _), fun i x k t hx ht => (h.ent i x k t hx ht).ext he (hS _), h.ptr.ext he (hS 2)⟩
theorem DX.below (h : DX Φ B w q a) (hb : Below w.heap.size w w') : DX Φ B w' q a := by
  obtain ⟨h1, A0, c0, cl, P, h2, h3⟩ := h
  exact ⟨h1, A0, c0, cl, P, h2, h3.below hb⟩
theorem DX.ext (h : DX Φ B w q a) (he : Ext B S Φ Φ' w w') (hS : ∀ j, ¬ S (q, j)) : DX Φ' B w' q a := by
  obtain ⟨h1, A0, c0, cl, P, h2, h3⟩ := h
  exact ⟨h1, A0, c0, cl, P, h2, h3.ext he hS⟩
theorem DX.lt (h : DX Φ B w q a) : q < w.heap.size ∧ B ≤ q := by
  obtain ⟨h1, A0, c0, cl, P, h2, h3⟩ := h
  exact ⟨h3.blk.lt, h3.b⟩
/-- All of a Daq's lists read. -/
theorem DXc.rl (h : DXc Φ B w q evs step A0 c0 cl P pt) : RL w A0 cl := ⟨h.row.1.rd, fun i x hx => (h.tab i x hx).1.rd, fun i x k t hx ht => (h.ent i x k t hx ht).1.rd⟩
/-- A block of one owner of the Daq's was written: what the others hold is as it was. -/
theorem DXc.k0 (h : DXc Φ B w q evs step A0 c0 cl P pt) : BlC Φ (q, 0) w q 164 #[.int .i64 evs, .int .i64 step, .slice A0 cl.length c0, .pointer P] := ⟨h.blk, h.own⟩
/-- The Daq's own block was written. -/
theorem DXc.set0 (h : DXc Φ B w q evs step A0 c0 cl P pt) (he : Ext B (fun c => c = (q, 0)) Φ Φ w w') {step' : Nat} {cs : Array Value} (hB : Blk w' q 164 cs) (hc : cs = #[.int .i64 evs, .int .i64 step', .slice A0 cl.length c0, .pointer P]) : DXc Φ B w' q evs step' A0 c0 cl P pt := by
  subst hc
  have ne : ∀ j, j ≠ 0 → ¬ ((q, j) : Nat × Nat) = (q, 0) := fun j hj hh => by simp at hh; exact hj hh
  exact ⟨h.b, h.own, hB, h.row.ext he (ne 1 (by decide)), fun i x hx => (h.tab i x hx).ext he (ne _ (by omega)), fun i x k t hx ht => (h.ent i x k t hx ht).ext he (ne _ (by omega)), h.ptr.ext he (ne 2 (by decide))⟩
/-- The lists' row was written; where their tables lie is as it was. -/
theorem DXc.set1 (h : DXc Φ B w q evs step A0 c0 cl P pt) (he : Ext B (fun c => c = (q, 1)) Φ Φ w w') {cl' : List Lc} (hl : cl'.length = cl.length) (hr : Own w' B 71 8 A0 cl.length c0 (lcells cl')) (ht : ∀ (i : Nat) (x' : Lc), cl'[i]? = some x' → ∃ x : Lc, cl[i]? = some x ∧ x'.A = x.A ∧ x'.c = x.c ∧ x'.tabs = x.tabs) : DXc Φ B w' q evs step A0 c0 cl' P pt := by
  have ne : ∀ j, j ≠ 1 → ¬ ((q, j) : Nat × Nat) = (q, 1) := fun j hj hh => by simp at hh; exact hj hh
  have h0 := h.k0.ext he (ne 0 (by decide))
  refine ⟨h.b, h.own, by rw [hl]; exact h0.1, by rw [hl]; exact ⟨hr, h.row.2⟩, fun i x' hx' => ?_, fun i x' k t hx' ht' => ?_, h.ptr.ext he (ne 2 (by decide))⟩
  · obtain ⟨x, hx, e1, e2, e3⟩ := ht i x' hx'
    rw [e1, e2, e3]
    exact (h.tab i x hx).ext he (ne _ (by omega))
  · obtain ⟨x, hx, e1, e2, e3⟩ := ht i x' hx'
    exact (h.ent i x k t hx (by rw [← e3]; exact ht')).ext he (ne _ (by omega))
end
theorem set_get {α : Type} {l : List α} {i : Nat} {x y : α} (h : l[i]? = some x) (j : Nat) {z : α} (hz : (l.set i y)[j]? = some z) : (j = i ∧ z = y) ∨ (j ≠ i ∧ l[j]? = some z) := by
  have hi := (List.getElem?_eq_some_iff.1 h).1
  by_cases hji : j = i
  · subst hji
    rw [List.getElem?_set_self hi] at hz
    exact .inl ⟨rfl, by simpa using hz.symm⟩
  · rw [List.getElem?_set_ne (fun e => hji e.symm)] at hz
    exact .inr ⟨hji, hz⟩
/-- A list's cells from j on (behind its tables) were written. -/
theorem DXc.setL {Φ : Who} {B : Nat} {w w' : World} {q evs step c0 : Nat} {A0 P : Option Addr} {cl : List Lc} {pt : Option (Nat × Nat × Nat)} (h : DXc Φ B w q evs step A0 c0 cl P pt) (hN : Nu Φ w) {g o : Nat} (hA : A0 = some ⟨g, o, none⟩) {i : Nat} {x x' : Lc} (hx : cl[i]? = some x) {j : Nat} {cs : List Value} (hj : j + cs.length ≤ 8) (hc : x'.cs = putL x.cs j cs) (he : x'.A = x.A ∧ x'.c = x.c ∧ x'.tabs = x.tabs)
    (ho : Own w' B 71 8 A0 cl.length c0 (putL (lcells cl) (i * 8 + j) cs)) (hg : w.grownBy w' (some g)) : DXc Φ B w' q evs step A0 c0 (cl.set i x') P pt ∧ Ext B (SdD q) Φ Φ w w' := by
  subst hA
  have hgq := h.row.2 g rfl
  have hgB := (h.row.1.lt (g := g) rfl).1
  have hx1 := Ext.one hN hg hgB hgq
  refine ⟨h.set1 hx1 (by simp) (by rw [lcells, ← flatC_put Lc.cs 8 cl (fun _ _ => rfl) i x x' hx j cs hj hc]; exact ho) fun k z hz => ?_, hx1.mono (Nat.le_refl _) fun c hc => by subst hc; exact ⟨rfl, .inl (by show (1 : Nat) < 5; decide)⟩⟩
  rcases set_get hx k hz with ⟨rfl, rfl⟩ | ⟨-, hz⟩
  · exact ⟨x, hx, he⟩
  · exact ⟨z, hz, rfl, rfl, rfl⟩
end Go.Proofs.Yteecgdbicokgoaa
