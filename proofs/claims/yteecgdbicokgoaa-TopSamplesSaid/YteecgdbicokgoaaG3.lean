/- Daq: Stop. -/
import Derived.Test.YteecgdbicokgoaaG2
import Derived.Test.YteecgdbicokgoaaChain
namespace Go.Proofs.Yteecgdbicokgoaa
open Go.RowKit
set_option linter.unusedVariables false
set_option linter.unusedSimpArgs false
set_option maxRecDepth 100000
/-- The first k of a list turned. -/
def mapK {α : Type} (f : α → α) : Nat → List α → List α
  | 0, l => l
  | _, [] => []
  | k + 1, x :: l => f x :: mapK f k l
theorem mapK_len {α : Type} (f : α → α) : ∀ (k : Nat) (l : List α), (mapK f k l).length = l.length
  | 0, l => by cases l <;> rfl
  | k + 1, [] => rfl
  | k + 1, x :: l => by simp [mapK, mapK_len f k l]
theorem mapK_get {α : Type} (f : α → α) : ∀ (k : Nat) (l : List α), (mapK f k l)[k]? = l[k]?
  | 0, l => by cases l <;> rfl
  | k + 1, [] => rfl
  | k + 1, x :: l => by simp [mapK, mapK_get f k l]
theorem mapK_set {α : Type} (f : α → α) : ∀ (k : Nat) (l : List α) (x : α), l[k]? = some x → (mapK f k l).set k (f x) = mapK f (k + 1) l
  | 0, [], x, h => by simp at h
  | 0, y :: l, x, h => by
    simp at h
    subst h
    simp [mapK]
  | k + 1, [], x, h => by simp at h
  | k + 1, y :: l, x, h => by
    have ih := mapK_set f k l x (by simpa using h)
    rw [mapK, List.set_cons_succ, ih]
    rfl
theorem mapK_all {α : Type} (f : α → α) : ∀ (l : List α), mapK f l.length l = l.map f
  | [] => rfl
  | x :: l => by rw [List.length_cons, mapK, mapK_all f l, List.map_cons]
theorem set_same {α : Type} : ∀ {l : List α} {k : Nat} {x : α}, l[k]? = some x → l.set k x = l
  | [], k, x, h => rfl
  | y :: l, 0, x, h => by simp at h; subst h; rfl
  | y :: l, k + 1, x, h => by rw [List.set_cons_succ, set_same (by simpa using h)]
theorem mapK_zero {α : Type} (f : α → α) (l : List α) : mapK f 0 l = l := by cases l <;> rfl
/-- What a list's tables and its first one are. -/
def Ls.key (x : Ls) : List (List En) × Int := (x.tabs, x.first)
theorem ok_same {a : Dq} (h : a.ok) {ls : List Ls} (hk : ls.map Ls.key = a.ls.map Ls.key) : (Dq.mk a.evs a.step ls a.ptr).ok := by
  have hmem : ∀ x ∈ ls, ∃ y ∈ a.ls, y.tabs = x.tabs ∧ y.first = x.first := fun x hx => by
    have h1 : x.key ∈ a.ls.map Ls.key := by rw [← hk]; exact List.mem_map_of_mem hx
    obtain ⟨y, hy, he⟩ := List.mem_map.1 h1
    unfold Ls.key at he
    simp only [Prod.mk.injEq] at he
    exact ⟨y, hy, he.1, he.2⟩
  have hm : manyT ls = manyT a.ls := by
    have e : ∀ l : List Ls, manyT l = ((l.map Ls.key).map fun z => z.1.length).sum := fun l => by unfold manyT Ls.key; rw [List.map_map]; rfl
    rw [e, e, hk]
  refine ⟨h.e1, h.e4, h.s3, ?_, by show manyT ls ≤ 16; rw [hm]; exact h.m16, fun x hx => ?_, fun x hx => ?_, fun x hx => ?_, fun hs => ?_, fun p hp => ?_⟩
  · have := congrArg List.length hk
    simp only [List.length_map] at this
    show ls.length ≤ 4
    rw [this]
    exact h.n4
  · obtain ⟨y, hy, h1, -⟩ := hmem x hx
    rw [← h1]
    exact h.t7 y hy
  · obtain ⟨y, hy, -, h1⟩ := hmem x hx
    rw [← h1]
    exact h.f0 y hy
  · obtain ⟨y, hy, h1, -⟩ := hmem x hx
    rw [← h1]
    exact h.wf y hy
  · have h1 := h.z0 hs
    rw [h1] at hk
    simpa using hk
  · obtain ⟨y, t, h1, h2, h3⟩ := h.pp p hp
    have h4 : (ls.map Ls.key)[p.1]? = some y.key := by rw [hk, List.getElem?_map, h1]; rfl
    rw [List.getElem?_map] at h4
    cases h5 : ls[p.1]? with
    | none => rw [h5] at h4; cases h4
    | some x =>
      rw [h5] at h4
      simp only [Option.map_some, Option.some.injEq, Ls.key, Prod.mk.injEq] at h4
      exact ⟨x, t, by first | exact h5 | rfl, by rw [h4.1]; exact h2, h3⟩
/-- A Daq that is being changed, since w0. -/
structure DS (Φ : Who) (B q evs step : Nat) (A0 : Option Addr) (c0 : Nat) (cl : List Lc) (P : Option Addr) (pt : Option (Nat × Nat × Nat)) (w0 w : World) : Prop where
  x : DXc Φ B w q evs step A0 c0 cl P pt
  e : Ext B (SdD q) Φ Φ w0 w
section
variable {Φ : Who} {B q evs step c0 : Nat} {A0 P : Option Addr} {cl : List Lc} {pt : Option (Nat × Nat × Nat)} {w0 w w' : World}
theorem DS.below (h : DS Φ B q evs step A0 c0 cl P pt w0 w) (hb : Below w.heap.size w w') : DS Φ B q evs step A0 c0 cl P pt w0 w' := ⟨h.x.below hb, h.e.grow hb⟩
theorem DS.setL {g o : Nat} (h : DS Φ B q evs step (some ⟨g, o, none⟩) c0 cl P pt w0 w) {i : Nat} {x x' : Lc} (hx : cl[i]? = some x) {j : Nat} {cs : List Value} (hj : j + cs.length ≤ 8) (hc : x'.cs = putL x.cs j cs) (he : x'.A = x.A ∧ x'.c = x.c ∧ x'.tabs = x.tabs)
    (ho : Own w' B 71 8 (some ⟨g, o, none⟩) cl.length c0 (putL (lcells cl) (i * 8 + j) cs)) (hg : w.grownBy w' (some g)) : DS Φ B q evs step (some ⟨g, o, none⟩) c0 (cl.set i x') P pt w0 w' := by
  obtain ⟨h1, h2⟩ := h.x.setL h.e.nu rfl hx hj hc he ho hg
  exact ⟨h1, h.e.trans h2⟩
end
def Lc.stop (x : Lc) : Lc := { x with on := false, ch := false }
def Ls.stop (x : Ls) : Ls := { x with on := false, ch := false }
def stopX (a : Dq) : Dq := { a with ls := a.ls.map Ls.stop }
theorem stop_abs (cl : List Lc) : abs (cl.map Lc.stop) = (abs cl).map Ls.stop := by
  unfold abs
  rw [List.map_map, List.map_map]
  rfl
theorem stop_ok {a : Dq} (h : a.ok) : (stopX a).ok := ok_same h (by rw [List.map_map]; rfl)
/-- What a call on a Daq answers and leaves. -/
def DXP (Φ : Who) (B : Nat) (w : World) (q : Nat) (a' : Dq) (v : Value) (e : Ending) (w' : World) : Prop := e = .returned v ∧ ∃ Φ', DX Φ' B w' q a' ∧ Ext B (SdD q) Φ Φ' w w'
end Go.Proofs.Yteecgdbicokgoaa
