/- Daq: Stop. -/
import Derived.Test.YtjjifldgfihjgaaG2
import Derived.Test.YtjjifldgfihjgaaChain
namespace Go.Proofs.Ytjjifldgfihjgaa
open Go.RowKit
set_option linter.unusedVariables false
set_option linter.unusedSimpArgs false
/-- The first k of a list turned. -/
def mapK {α : Type} (f : α → α) : Nat → List α → List α
  | 0, l => l
  | _, [] => []
  | k + 1, x :: l => f x :: mapK f k l
theorem mapK_len {α : Type} (f : α → α) : ∀ (k : Nat) (l : List α), (mapK f k l).length = l.length
  | 0, l => by cases l <;> rfl
  | k + 1, [] => rfl
  | k + 1, x :: l => by simp [mapK, mapK_len f k l]
theorem mapK_get {α : Type} (f : α → α) : ∀ (k : Nat) (l : List α), (mapK f k l)[k]? = l[k]?
  | 0, l => by cases l <;> rfl
  | k + 1, [] => rfl
  | k + 1, x :: l => by simp [mapK, mapK_get f k l]
theorem mapK_set {α : Type} (f : α → α) : ∀ (k : Nat) (l : List α) (x : α), l[k]? = some x → (mapK f k l).set k (f x) = mapK f (k + 1) l
  | 0, [], x, h => by simp at h
  | 0, y :: l, x, h => by
    simp at h
    subst h
    simp [mapK]
  | k + 1, [], x, h => by simp at h
  | k + 1, y :: l, x, h => by
    have ih := mapK_set f k l x (by simpa using h)
    rw [mapK, List.set_cons_succ, ih]
    rfl
theorem mapK_all {α : Type} (f : α → α) : ∀ (l : List α), mapK f l.length l = l.map f
  | [] => rfl
  | x :: l => by rw [List.length_cons, mapK, mapK_all f l, List.map_cons]
theorem set_same {α : Type} : ∀ {l : List α} {k : Nat} {x : α}, l[k]? = some x → l.set k x = l
  | [], k, x, h => rfl
  | y :: l, 0, x, h => by simp at h; subst h; rfl
  | y :: l, k + 1, x, h => by rw [List.set_cons_succ, set_same (by simpa using h)]
theorem mapK_zero {α : Type} (f : α → α) (l : List α) : mapK f 0 l = l := by cases l <;> rfl
/-- What a list's tables and its first one are. -/
def Ls.key (x : Ls) : List (List En) × Int := (x.tabs, x.first)
theorem ok_same {a : Dq} (h : a.ok) {ls : List Ls} (hk : ls.map Ls.key = a.ls.map Ls.key) : (Dq.mk a.evs a.step ls a.ptr).ok := by
  have hmem : ∀ x ∈ ls, ∃ y ∈ a.ls, y.tabs = x.tabs ∧ y.first = x.first := fun x hx => by
    have h1 : x.key ∈ a.ls.map Ls.key := by rw [← hk]; exact List.mem_map_of_mem hx
    obtain ⟨y, hy, he⟩ := List.mem_map.1 h1
    unfold Ls.key at he
    simp only [Prod.mk.injEq] at he
    exact ⟨y, hy, he.1, he.2⟩
  have hm : manyT ls = manyT a.ls := by
    have e : ∀ l : List Ls, manyT l = ((l.map Ls.key).map fun z => z.1.length).sum := fun l => by unfold manyT Ls.key; rw [List.map_map]; rfl
    rw [e, e, hk]
  refine ⟨h.e1, h.e4, h.s3, ?_, by show manyT ls ≤ 16; rw [hm]; exact h.m16, fun x hx => ?_, fun x hx => ?_, fun x hx => ?_, fun hs => ?_, fun p hp => ?_⟩
  · have := congrArg List.length hk
    simp only [List.length_map] at this
    show ls.length ≤ 4
    rw [this]
    exact h.n4
  · obtain ⟨y, hy, h1, -⟩ := hmem x hx
    rw [← h1]
    exact h.t7 y hy
  · obtain ⟨y, hy, -, h1⟩ := hmem x hx
    rw [← h1]
    exact h.f0 y hy
  · obtain ⟨y, hy, h1, -⟩ := hmem x hx
    rw [← h1]
    exact h.wf y hy
  · have h1 := h.z0 hs
    rw [h1] at hk
    simpa using hk
  · obtain ⟨y, t, h1, h2, h3⟩ := h.pp p hp
    have h4 : (ls.map Ls.key)[p.1]? = some y.key := by rw [hk, List.getElem?_map, h1]; rfl
    rw [List.getElem?_map] at h4
    cases h5 : ls[p.1]? with
    | none => rw [h5] at h4; cases h4
    | some x =>
      rw [h5] at h4
      simp only [Option.map_some, Option.some.injEq, Ls.key, Prod.mk.injEq] at h4
      exact ⟨x, t, by first | exact h5 | rfl, by rw [h4.1]; exact h2, h3⟩
/-- A Daq that is being changed, since w0. -/
structure DS (Φ : Who) (B q evs step : Nat) (A0 : Option Addr) (c0 : Nat) (cl : List Lc) (P : Option Addr) (pt : Option (Nat × Nat × Nat)) (w0 w : World) : Prop where
  x : DXc Φ B w q evs step A0 c0 cl P pt
  e : Ext B (Sd q) Φ Φ w0 w
section
variable {Φ : Who} {B q evs step c0 : Nat} {A0 P : Option Addr} {cl : List Lc} {pt : Option (Nat × Nat × Nat)} {w0 w w' : World}
theorem DS.below (h : DS Φ B q evs step A0 c0 cl P pt w0 w) (hb : Below w.heap.size w w') : DS Φ B q evs step A0 c0 cl P pt w0 w' := ⟨h.x.below hb, h.e.grow hb⟩
theorem DS.setL {g o : Nat} (h : DS Φ B q evs step (some ⟨g, o, none⟩) c0 cl P pt w0 w) {i : Nat} {x x' : Lc} (hx : cl[i]? = some x) {j : Nat} {cs : List Value} (hj : j + cs.length ≤ 8) (hc : x'.cs = putL x.cs j cs) (he : x'.A = x.A ∧ x'.c = x.c ∧ x'.tabs = x.tabs)
    (ho : Own w' B 40 8 (some ⟨g, o, none⟩) cl.length c0 (putL (lcells cl) (i * 8 + j) cs)) (hg : w.grownBy w' (some g)) : DS Φ B q evs step (some ⟨g, o, none⟩) c0 (cl.set i x') P pt w0 w' := by
  obtain ⟨h1, h2⟩ := h.x.setL h.e.nu rfl hx hj hc he ho hg
  exact ⟨h1, h.e.trans h2⟩
end
def Lc.stop (x : Lc) : Lc := { x with on := false, ch := false }
def Ls.stop (x : Ls) : Ls := { x with on := false, ch := false }
def stopX (a : Dq) : Dq := { a with ls := a.ls.map Ls.stop }
theorem stop_abs (cl : List Lc) : abs (cl.map Lc.stop) = (abs cl).map Ls.stop := by
  unfold abs
  rw [List.map_map, List.map_map]
  rfl
theorem stop_ok {a : Dq} (h : a.ok) : (stopX a).ok := ok_same h (by rw [List.map_map]; rfl)
/-- What a call on a Daq answers and leaves. -/
def DXP (Φ : Who) (B : Nat) (w : World) (q : Nat) (a' : Dq) (v : Value) (e : Ending) (w' : World) : Prop := e = .returned v ∧ ∃ Φ', DX Φ' B w' q a' ∧ Ext B (Sd q) Φ Φ' w w'
theorem stop_nil (w : World) : Calls Try.prog 16 #[.pointer none] w fun e w' => e = .returned (.tuple #[]) ∧ w = w' := by
  go_enter Try.func16, Try.ntmps16
  go_wp2_with fail
  (try simp only [Exit.inBlock, Exit.then])
  refine bodyPost_ret (results_none Try.results16 _ _ _) rfl ?_
  exact ⟨rfl, rfl⟩
set_option maxHeartbeats 2000000 in
theorem stop_any {Φ : Who} {B q : Nat} {w : World} {a : Dq} (h : DX Φ B w q a) (hN : Nu Φ w) : Calls Try.prog 16 #[.pointer (some ⟨q, 0, none⟩)] w (DXP Φ B w q (stopX a) (.tuple #[])) := by
  obtain ⟨hok, A0, c0, cl, P, hab, hX⟩ := h
  have hn := hok.n4
  rw [← hab, abs_len] at hn
  have HOK := Lib.hid hok
  have HAB := Lib.hid hab
  obtain ⟨n, hnn⟩ : ∃ n, cl.length = n := ⟨_, rfl⟩
  have HL := Lib.hid hnn
  rw [hnn] at hn
  have hnI : (n : Int) ≤ 4 := by omega
  have S0 : Hid (DS Φ B q a.evs a.step A0 c0 (mapK Lc.stop 0 cl) P a.ptr w w) := Lib.hid (by rw [mapK_zero]; exact ⟨hX, Ext.refl hN⟩)
  have hc := hX.cells
  have hA0 : Hid (0 < n → ∃ g o, A0 = some ⟨g, o, none⟩) := Lib.hid fun h => hX.ad (i := 0) (by omega)
  rw [hnn] at hc
  have hcc := hX.row.1.2.1
  rw [hnn] at hcc
  have hccm := hX.row.1.2.2.1
  unfold maxLen at hccm
  clear hok hab hX hnn
  go_enter Try.func16, Try.ntmps16
  go_wp2_with fail
  clear hc
  go_loopw [10] (fun iv wr => ∃ k : Nat, k ≤ n ∧ iv = .int .i64 k ∧ DS Φ B q a.evs a.step A0 c0 (mapK Lc.stop k cl) P a.ptr w wr) (fun iv _ => n - (intOf iv).toNat)
  case atStart => exact ⟨0, Nat.zero_le _, rfl, S0.out⟩
  case round =>
    clear S0
    obtain ⟨k, hk, rfl, hS⟩ := hrel
    by_cases hlt : k < n
    · have hlt' : (k : Int) < n := by omega
      obtain ⟨g, o, rfl⟩ := hA0.out (by omega)
      obtain ⟨x, hx⟩ : ∃ x, cl[k]? = some x := ⟨_, List.getElem?_eq_getElem (by rw [HL.out]; exact hlt)⟩
      have hkl : k < (mapK Lc.stop k cl).length := by rw [mapK_len, HL.out]; exact hlt
      have HKL := Lib.hid hkl
      have HFIN : Hid ((mapK Lc.stop k cl).set k x.stop = mapK Lc.stop (k + 1) cl) := Lib.hid (mapK_set Lc.stop k cl x hx)
      have hS0 : Hid (DS Φ B q a.evs a.step (some ⟨g, o, none⟩) c0 ((mapK Lc.stop k cl).set k x) P a.ptr w wr) := Lib.hid (by
        rw [set_same (by rw [mapK_get]; exact hx)]
        exact hS)
      have HRR : ∀ j w', (fun j w' => DS Φ B q a.evs a.step (some ⟨g, o, none⟩) c0 ((mapK Lc.stop k cl).set k (if j = 0 then x else if j = 1 then { x with on := false } else x.stop)) P a.ptr w w') j w' → ∀ i, w'.cell? ⟨q, i, none⟩ = (#[.int .i64 a.evs, .int .i64 a.step, .slice (some ⟨g, o, none⟩) n c0, .pointer P] : Array Value)[i]? := fun j w' h => by
        have h1 := h.x.cells
        rw [List.length_set, mapK_len, HL.out] at h1
        exact h1
      clear hx hkl hS
      go_wp2_with fail
      refine wp_region_s [12, 15] (fun j w' => DS Φ B q a.evs a.step (some ⟨g, o, none⟩) c0 ((mapK Lc.stop k cl).set k (if j = 0 then x else if j = 1 then { x with on := false } else x.stop)) P a.ptr w w') (by kernel_rfl) (by kernel_rfl) (hS0.out.below (Below.refl _ _).drew) ?_
      first
        | (refine wpS_skip (by rfl) (by rfl) ?_; try simp only [Act.put, List.setIfInBounds_toArray, List.set_cons_zero, List.set_cons_succ, Nat.reduceAdd])
        | (refine wpS_val (v := ?_) HRR (by rfl) (by rfl) ?_ ?_; rotate_left; · (intro w' hS; go_simp; first | done | with_reducible rfl)
           try simp only [Act.put, List.setIfInBounds_toArray, List.set_cons_zero, List.set_cons_succ, Nat.reduceAdd])
      first
        | (refine wpS_skip (by rfl) (by rfl) ?_; try simp only [Act.put, List.setIfInBounds_toArray, List.set_cons_zero, List.set_cons_succ, Nat.reduceAdd])
        | (refine wpS_val (v := ?_) HRR (by rfl) (by rfl) ?_ ?_; rotate_left; · (intro w' hS; go_simp; first | done | with_reducible rfl)
           try simp only [Act.put, List.setIfInBounds_toArray, List.set_cons_zero, List.set_cons_succ, Nat.reduceAdd])
      first
        | (refine wpS_skip (by rfl) (by rfl) ?_; try simp only [Act.put, List.setIfInBounds_toArray, List.set_cons_zero, List.set_cons_succ, Nat.reduceAdd])
        | (refine wpS_val (v := ?_) HRR (by rfl) (by rfl) ?_ ?_; rotate_left; · (intro w' hS; go_simp; first | done | with_reducible rfl)
           try simp only [Act.put, List.setIfInBounds_toArray, List.set_cons_zero, List.set_cons_succ, Nat.reduceAdd])
      first
        | (refine wpS_skip (by rfl) (by rfl) ?_; try simp only [Act.put, List.setIfInBounds_toArray, List.set_cons_zero, List.set_cons_succ, Nat.reduceAdd])
        | (refine wpS_val (v := ?_) HRR (by rfl) (by rfl) ?_ ?_; rotate_left; · (intro w' hS; go_simp; first | done | with_reducible rfl)
           try simp only [Act.put, List.setIfInBounds_toArray, List.set_cons_zero, List.set_cons_succ, Nat.reduceAdd])
      first
        | (refine wpS_skip (by rfl) (by rfl) ?_; try simp only [Act.put, List.setIfInBounds_toArray, List.set_cons_zero, List.set_cons_succ, Nat.reduceAdd])
        | (refine wpS_val (v := ?_) HRR (by rfl) (by rfl) ?_ ?_; rotate_left; · (intro w' hS; go_simp; first | done | with_reducible rfl)
           try simp only [Act.put, List.setIfInBounds_toArray, List.set_cons_zero, List.set_cons_succ, Nat.reduceAdd])
      first
        | (refine wpS_skip (by rfl) (by rfl) ?_; try simp only [Act.put, List.setIfInBounds_toArray, List.set_cons_zero, List.set_cons_succ, Nat.reduceAdd])
        | (refine wpS_val (v := ?_) HRR (by rfl) (by rfl) ?_ ?_; rotate_left; · (intro w' hS; go_simp; first | done | with_reducible rfl)
           try simp only [Act.put, List.setIfInBounds_toArray, List.set_cons_zero, List.set_cons_succ, Nat.reduceAdd])
      first
        | (refine wpS_skip (by rfl) (by rfl) ?_; try simp only [Act.put, List.setIfInBounds_toArray, List.set_cons_zero, List.set_cons_succ, Nat.reduceAdd])
        | (refine wpS_val (v := ?_) HRR (by rfl) (by rfl) ?_ ?_; rotate_left; · (intro w' hS; go_simp; first | done | with_reducible rfl)
           try simp only [Act.put, List.setIfInBounds_toArray, List.set_cons_zero, List.set_cons_succ, Nat.reduceAdd])
      first
        | (refine wpS_skip (by rfl) (by rfl) ?_; try simp only [Act.put, List.setIfInBounds_toArray, List.set_cons_zero, List.set_cons_succ, Nat.reduceAdd])
        | (refine wpS_val (v := ?_) HRR (by rfl) (by rfl) ?_ ?_; rotate_left; · (intro w' hS; go_simp; first | done | with_reducible rfl)
           try simp only [Act.put, List.setIfInBounds_toArray, List.set_cons_zero, List.set_cons_succ, Nat.reduceAdd])
      first
        | (refine wpS_skip (by rfl) (by rfl) ?_; try simp only [Act.put, List.setIfInBounds_toArray, List.set_cons_zero, List.set_cons_succ, Nat.reduceAdd])
        | (refine wpS_val (v := ?_) HRR (by rfl) (by rfl) ?_ ?_; rotate_left; · (intro w' hS; go_simp; first | done | with_reducible rfl)
           try simp only [Act.put, List.setIfInBounds_toArray, List.set_cons_zero, List.set_cons_succ, Nat.reduceAdd])
      first
        | (refine wpS_skip (by rfl) (by rfl) ?_; try simp only [Act.put, List.setIfInBounds_toArray, List.set_cons_zero, List.set_cons_succ, Nat.reduceAdd])
        | (refine wpS_val (v := ?_) HRR (by rfl) (by rfl) ?_ ?_; rotate_left; · (intro w' hS; go_simp; first | done | with_reducible rfl)
           try simp only [Act.put, List.setIfInBounds_toArray, List.set_cons_zero, List.set_cons_succ, Nat.reduceAdd])
      first
        | (refine wpS_skip (by rfl) (by rfl) ?_; try simp only [Act.put, List.setIfInBounds_toArray, List.set_cons_zero, List.set_cons_succ, Nat.reduceAdd])
        | (refine wpS_val (v := ?_) HRR (by rfl) (by rfl) ?_ ?_; rotate_left; · (intro w' hS; go_simp; first | done | with_reducible rfl)
           try simp only [Act.put, List.setIfInBounds_toArray, List.set_cons_zero, List.set_cons_succ, Nat.reduceAdd])
      first
        | (refine wpS_skip (by rfl) (by rfl) ?_; try simp only [Act.put, List.setIfInBounds_toArray, List.set_cons_zero, List.set_cons_succ, Nat.reduceAdd])
        | (refine wpS_val (v := ?_) HRR (by rfl) (by rfl) ?_ ?_; rotate_left; · (intro w' hS; go_simp; first | done | with_reducible rfl)
           try simp only [Act.put, List.setIfInBounds_toArray, List.set_cons_zero, List.set_cons_succ, Nat.reduceAdd])
      refine wpS_step (v := undef) 0 (by kernel_rfl) rfl (by intro p hp; first | omega | (obtain rfl : p = 0 := (by omega); exact ⟨_, rfl, by kernel_rfl⟩)) (of_decide_eq_true (by kernel_rfl)) (fun w' hS => .inl ⟨by rfl, ?_⟩) (fun _ => rfl) ?_
      · have hS' : DS Φ B q a.evs a.step (some ⟨g, o, none⟩) c0 ((mapK Lc.stop k cl).set k x) P a.ptr w w' := hS
        refine wp_stO 4 (.tmp 24) (.const (.bool false)) rfl (.bool false) (k * 8 + 6) (by first | rfl | (rw [← Nat.add_assoc]; rfl)) rfl hS'.x.row.1 (by have := HL.out; simp [Value.cells, mapK_len, List.length_set]; omega) (by kernel_rfl) (by simp [Value.cells, Value.oneCell']) (fun w'' h2 h3 => ⟨rfl, ?_⟩)
        have hh := hS'.setL (x' := { x with on := false }) (List.getElem?_set_self HKL.out) (j := 6) (cs := [.bool false]) (by decide) rfl ⟨rfl, rfl, rfl⟩ h2 h3
        rw [List.set_set] at hh
        exact hh
      try simp only [Act.put, List.setIfInBounds_toArray, List.set_cons_zero, List.set_cons_succ, Nat.reduceAdd]
      first
        | (refine wpS_skip (by rfl) (by rfl) ?_; try simp only [Act.put, List.setIfInBounds_toArray, List.set_cons_zero, List.set_cons_succ, Nat.reduceAdd])
        | (refine wpS_val (v := ?_) HRR (by rfl) (by rfl) ?_ ?_; rotate_left; · (intro w' hS; go_simp; first | done | with_reducible rfl)
           try simp only [Act.put, List.setIfInBounds_toArray, List.set_cons_zero, List.set_cons_succ, Nat.reduceAdd])
      first
        | (refine wpS_skip (by rfl) (by rfl) ?_; try simp only [Act.put, List.setIfInBounds_toArray, List.set_cons_zero, List.set_cons_succ, Nat.reduceAdd])
        | (refine wpS_val (v := ?_) HRR (by rfl) (by rfl) ?_ ?_; rotate_left; · (intro w' hS; go_simp; first | done | with_reducible rfl)
           try simp only [Act.put, List.setIfInBounds_toArray, List.set_cons_zero, List.set_cons_succ, Nat.reduceAdd])
      refine wpS_step (v := undef) 1 (by kernel_rfl) rfl (by intro p hp; first | omega | (obtain rfl : p = 0 := (by omega); exact ⟨_, rfl, by kernel_rfl⟩)) (of_decide_eq_true (by kernel_rfl)) (fun w' hS => .inl ⟨by rfl, ?_⟩) (fun _ => rfl) ?_
      · have hS' : DS Φ B q a.evs a.step (some ⟨g, o, none⟩) c0 ((mapK Lc.stop k cl).set k { x with on := false }) P a.ptr w w' := hS
        refine wp_stO 4 (.tmp 26) (.const (.bool false)) rfl (.bool false) (k * 8 + 7) (by first | rfl | (rw [← Nat.add_assoc]; rfl)) rfl hS'.x.row.1 (by have := HL.out; simp [Value.cells, mapK_len, List.length_set]; omega) (by kernel_rfl) (by simp [Value.cells, Value.oneCell']) (fun w'' h2 h3 => ⟨rfl, ?_⟩)
        have hh := hS'.setL (x' := x.stop) (List.getElem?_set_self HKL.out) (j := 7) (cs := [.bool false]) (by decide) rfl ⟨rfl, rfl, rfl⟩ h2 h3
        rw [List.set_set] at hh
        exact hh
      try simp only [Act.put, List.setIfInBounds_toArray, List.set_cons_zero, List.set_cons_succ, Nat.reduceAdd]
      refine wpS_done (by kernel_rfl) (fun w9 hS => ?_)
      have hS9 : DS Φ B q a.evs a.step (some ⟨g, o, none⟩) c0 ((mapK Lc.stop k cl).set k x.stop) P a.ptr w w9 := hS
      rw [HFIN.out] at hS9
      have FF := Lib.hid hS9
      clear hS HRR hS0 hS9
      go_wp2_with fail
      go_roundw
      case rel => exact ⟨k + 1, by omega, by simp, FF.out⟩
      case measure => simp [intOf]; omega
    · obtain rfl : k = n := by omega
      have FF : Hid (DXP Φ B w q (stopX a) (.tuple #[]) (.returned (.tuple #[])) wr) := Lib.hid (by
        refine ⟨rfl, Φ, ⟨stop_ok HOK.out, A0, c0, cl.map Lc.stop, P, ?_, ?_⟩, hS.e⟩
        · rw [stop_abs, HAB.out]
          rfl
        · have h1 := hS.x
          rw [← HL.out, mapK_all] at h1
          exact h1)
      clear hS
      go_wp2_with fail
      go_end0
      exact FF.out
end Go.Proofs.Ytjjifldgfihjgaa
