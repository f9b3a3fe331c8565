/- DaqLays: the plain law. -/
import Derived.Test.YtjjifldgfihjgaaGJ
import Derived.Test.YtjjifldgfihjgaaGK
namespace Go.Proofs.Ytjjifldgfihjgaa
open Go.RowKit
set_option linter.unusedVariables false
set_option linter.unusedSimpArgs false
theorem ite_same {α : Type} {p q : Prop} [Decidable p] [Decidable q] {x y : α} (h : p ↔ q) : (if p then x else y) = if q then x else y := by
  by_cases hp : p
  · rw [if_pos hp, if_pos (h.1 hp)]
  · rw [if_neg hp, if_neg (fun hq => hp (h.2 hq))]
theorem rg_get {α : Type} (F : Nat → α) {n i : Nat} (h : i < n) : ((List.range n).map F)[i]? = some (F i) := by simp [h]
theorem rg_set {α : Type} (F : Nat → α) (n i : Nat) (y : α) : ((List.range n).map F).set i y = (List.range n).map (fun j => if j = i then y else F j) := by
  refine List.ext_getElem? fun j => ?_
  rw [List.getElem?_set]
  by_cases hj : j < n
  · by_cases hji : i = j
    · subst hji
      simp [hj]
    · have hji' : ¬ j = i := fun e => hji e.symm
      simp [hj, hji, hji']
  · by_cases hji : i = j
    · subst hji
      simp [hj]
    · simp [hj, hji]
/-- A list of these tables, as it was laid. -/
def pl (T : List (List En)) : Ls := { n0 with tabs := T }
def tb (K : Nat) (E : Nat → List En) : List (List En) := (List.range K).map E
/-- A Daq of n lists. -/
def fz (n s : Nat) (F : Nat → Ls) (p : Option (Nat × Nat × Nat)) : Dq := ⟨2, s, (List.range n).map F, p⟩
theorem fz_congr {n s : Nat} {F G : Nat → Ls} {p : Option (Nat × Nat × Nat)} (h : ∀ i, i < n → F i = G i) : fz n s F p = fz n s G p := by
  unfold fz
  rw [List.map_congr_left fun i hi => h i (List.mem_range.1 hi)]
theorem tb_congr {K : Nat} {E G : Nat → List En} (h : ∀ i, i < K → E i = G i) : tb K E = tb K G := List.map_congr_left fun i hi => h i (List.mem_range.1 hi)
theorem fz_set {n s : Nat} (F G : Nat → Ls) {i : Nat} {y : Ls} (h : ∀ j, j < n → (if j = i then y else F j) = G j) : ((List.range n).map F).set i y = (List.range n).map G := by
  rw [rg_set]
  exact List.map_congr_left fun j hj => h j (List.mem_range.1 hj)
theorem fz_runs {n s : Nat} {F : Nat → Ls} {p : Option (Nat × Nat × Nat)} (h : ∀ i, (F i).on = false) : runsX (fz n s F p).ls = false := by
  unfold runsX fz
  rw [List.any_map, List.any_eq_false]
  intro i hi
  simp [h i]
theorem many_rg (F : Nat → Ls) (h : ∀ i, (F i).tabs.length ≤ 3) : ∀ n, manyT ((List.range n).map F) ≤ 3 * n
  | 0 => by simp [manyT]
  | n + 1 => by
    have ih := many_rg F h n
    have h1 := h n
    simp only [manyT, List.range_succ, List.map_append, List.map_cons, List.map_nil, List.sum_append, List.sum_cons, List.sum_nil] at ih ⊢
    omega
section
variable (kk : Nat → Nat) (N : Nat) (pt : Int)
def wr0 (z : Nat) : Int := (pt + z) % 4294967296
/-- Behind AllocOdt of the first m lists. -/
def F1 (m i : Nat) : Ls := pl (tb (if i < m then kk i else 0) fun _ => [])
/-- Behind AllocEntry of all tables ahead of (i0, j0). -/
def F2 (i0 j0 i : Nat) : Ls := pl (tb (kk i) fun j => if i < i0 ∨ (i = i0 ∧ j < j0) then (List.range N).map (fun _ => e0) else [])
/-- Behind WriteDaq of all entries ahead of (i0, j0, z0). -/
def F3 (i0 j0 z0 i : Nat) : Ls := pl (tb (kk i) fun j => (List.range N).map fun z => if i < i0 ∨ (i = i0 ∧ (j < j0 ∨ (j = j0 ∧ z < z0))) then ⟨1, j, wr0 pt z⟩ else e0)
/-- All that was written. -/
def T4 (i : Nat) : List (List En) := tb (kk i) fun j => (List.range N).map fun z => ⟨1, j, wr0 pt z⟩
/-- Behind SetMode and StartStop of the first m lists. -/
def F4 (m i : Nat) : Ls := if i < m then ⟨T4 kk N pt i, 0, true, 1, 3, i, false, decide (0 < kk i)⟩ else pl (T4 kk N pt i)
/-- Behind StartAll. -/
def F5 (i : Nat) : Ls := ⟨T4 kk N pt i, 0, true, 1, 3, i, decide (0 < kk i), false⟩
end
theorem doX_run {a : Dq} {c : Cm} (hp : putE c = 0) (hk : 18 ≤ c.code ∧ c.code ≤ 26) (hr : c.code ≤ 21 → runsX a.ls = false) : doX a c = runX a c := by
  unfold doX
  rw [if_neg (by rw [hp]; decide), if_neg (by simpa using hk), if_neg (fun h => by rw [hr h.1] at h; exact absurd h.2 (by decide))]
theorem put_cm {k a0 a1 a2 a3 a4 v : Int} (h : (k = 19 ∧ a1 = 0 ∧ a2 = 0 ∧ a3 = 0 ∧ a4 = 0 ∧ v = 0) ∨ (k = 20 ∧ a2 = 0 ∧ a3 = 0 ∧ a4 = 0 ∧ v = 0) ∨ ((k = 21 ∨ k = 22) ∧ a3 = 0 ∧ a4 = 0 ∧ v = 0) ∨ (k = 23 ∧ a2 = 0 ∧ a3 = 0 ∧ a4 = 0) ∨ (k = 24 ∧ v = 0) ∨ (k = 25 ∧ a2 = 0 ∧ a3 = 0 ∧ a4 = 0 ∧ v = 0) ∨ (k = 26 ∧ a1 = 0 ∧ a2 = 0 ∧ a3 = 0 ∧ a4 = 0 ∧ v = 0)) : putE (cm k a0 a1 a2 a3 a4 v) = 0 := by
  rcases h with ⟨rfl, rfl, rfl, rfl, rfl, rfl⟩ | ⟨rfl, rfl, rfl, rfl, rfl⟩ | ⟨rfl | rfl, rfl, rfl, rfl⟩ | ⟨rfl, rfl, rfl, rfl⟩ | ⟨rfl, rfl⟩ | ⟨rfl, rfl, rfl, rfl, rfl⟩ | ⟨rfl, rfl, rfl, rfl, rfl, rfl⟩ <;> simp [putE, fitsC, shp, zerosA, cutA, needN, cm]
section
variable {kk : Nat → Nat} {N : Nat} {pt : Int} {n s : Nat}
theorem lay0 (h : n ≤ 4) : doX ⟨2, 0, [], none⟩ (cm 19 n 0 0 0 0 0) = (fz n 1 (F1 kk 0) none, [], 0) := by
  rw [doX_run (put_cm (by simp)) (by simp [cm]) (fun _ => rfl)]
  show with_ (allocY _ _) = _
  unfold allocY
  rw [if_neg (by simp), if_neg (by simp [cm]; omega)]
  unfold with_ allocX fz
  simp only [cm, Int.toNat_natCast, Prod.mk.injEq, Dq.mk.injEq, true_and, and_true]
  refine List.ext_getElem? fun j => ?_
  rw [List.getElem?_replicate]
  by_cases hj : j < n
  · rw [if_pos hj, rg_get _ hj]
    simp [F1, pl, n0, tb]
  · rw [if_neg hj]
    simp [hj]
theorem lay1 (h : n ≤ 4) (hk : ∀ i, kk i ≤ 3) {m : Nat} (hm : m < n) (hs : s = 1 ∨ s = 2) : doX (fz n s (F1 kk m) none) (cm 20 m (kk m) 0 0 0 0) = (fz n 2 (F1 kk (m + 1)) none, [], 0) := by
  rw [doX_run (put_cm (by simp)) (by simp [cm]) (fun _ => fz_runs fun _ => rfl)]
  show with_ (odtsN _ _ _ _) = _
  have hmany := many_rg (F1 kk m) (fun i => by
    have := hk i
    simp only [F1, pl, tb, List.length_map, List.length_range]
    split <;> omega) n
  have hkm := hk m
  show with_ (odtsN (fz n s (F1 kk m) none) ((List.range n).map (F1 kk m)) m (kk m)) = _
  unfold odtsN
  rw [if_neg (by simp only [fz]; omega), rg_get _ hm]
  dsimp only
  rw [if_neg (by simp [F1, pl, tb]), if_neg (by omega)]
  unfold with_ fz
  simp only [Prod.mk.injEq, Dq.mk.injEq, true_and, and_true]
  refine fz_set (s := s) _ _ fun j hj => ?_
  by_cases hjm : j = m
  · subst hjm
    rw [if_pos rfl]
    simp [F1, pl, n0, tb, List.map_const']
  · rw [if_neg hjm]
    have : (j < m + 1) = (j < m) := by simp; omega
    simp only [F1, this]
theorem lay12 {m : Nat} : fz n s (F1 kk n) none = fz n s (F2 kk N 0 0) none := fz_congr fun i hi => by
  unfold F1 F2
  rw [if_pos hi]
  congr 1
  exact tb_congr fun j hj => by rw [if_neg (by omega)]
theorem tab_fz (F : Nat → Ls) {i j : Nat} {E : Nat → List En} {K : Nat} (hi : i < n) (hF : (F i).tabs = tb K E) (hj : j < K) (p : Option (Nat × Nat × Nat)) : tabOf (fz n s F p).ls i j = some (F i, E j) := by
  unfold tabOf
  rw [show (fz n s F p).ls[i]? = some (F i) from rg_get _ hi]
  simp only [Option.bind_some]
  rw [hF, show (tb K E)[j]? = some (E j) from rg_get _ hj]
  rfl
theorem lay2 {i j : Nat} (hi : i < n) (hj : j < kk i) (hN : N ≤ 7) (hs : s = 2 ∨ s = 3) : doX (fz n s (F2 kk N i j) none) (cm 21 i j N 0 0 0) = (fz n 3 (F2 kk N i (j + 1)) none, [], 0) := by
  rw [doX_run (put_cm (by simp)) (by simp [cm]) (fun _ => fz_runs fun _ => rfl)]
  show with_ (entsN _ _ _ _ _) = _
  show with_ (entsN (fz n s (F2 kk N i j) none) (fz n s (F2 kk N i j) none).ls i j N) = _
  unfold entsN
  rw [if_neg (by simp only [fz]; omega), tab_fz (F2 kk N i j) hi rfl hj]
  dsimp only
  rw [if_neg (by simp), if_neg (by omega)]
  unfold with_ fz
  simp only [Prod.mk.injEq, Dq.mk.injEq, true_and, and_true]
  refine fz_set (s := s) _ _ fun k hk => ?_
  by_cases hki : k = i
  · subst hki
    rw [if_pos rfl]
    unfold F2 pl
    simp only [Ls.mk.injEq, and_true]
    unfold tb
    rw [rg_set]
    refine List.map_congr_left fun x hx => ?_
    by_cases hxj : x = j
    · subst hxj
      rw [if_pos rfl]
      refine Eq.trans ?_ (if_pos (by
        try simp only [true_and]
        omega)).symm
      simp [List.map_const']
    · rw [if_neg hxj]
      exact ite_same (by
        try simp only [true_and]
        omega)
  · rw [if_neg hki]
    unfold F2
    congr 1
    refine tb_congr fun x hx => ?_
    exact ite_same (by
      try simp only [true_and]
      omega)
theorem lay22 {i : Nat} : fz n s (F2 kk N i (kk i)) none = fz n s (F2 kk N (i + 1) 0) none := fz_congr fun k hk => by
  unfold F2
  congr 1
  refine tb_congr fun j hj => ?_
  by_cases h : k < i + 1
  · by_cases hki : k = i
    · subst hki
      rw [if_pos (by omega), if_pos (by omega)]
    · rw [if_pos (by omega), if_pos (by omega)]
  · rw [if_neg (by omega), if_neg (by omega)]
theorem lay23 : fz n s (F2 kk N n 0) none = fz n s (F3 kk N pt 0 0 0) none := fz_congr fun k hk => by
  unfold F2 F3
  congr 1
  refine tb_congr fun j hj => ?_
  rw [if_pos (by omega)]
  refine List.map_congr_left fun z hz => ?_
  rw [if_neg (by omega)]
theorem lay3p {i j : Nat} (hi : i < n) (hj : j < kk i) (hN : 0 < N) : doX (fz n s (F3 kk N pt i j 0) none) (cm 22 i j 0 0 0 0) = (fz n s (F3 kk N pt i j 0) (some (i, j, 0)), [], 0) := by
  rw [doX_run (put_cm (by simp)) (by simp [cm]) (fun h => by simp [cm] at h)]
  show with_ (pointX _ _) = _
  unfold pointX
  rw [show tabOf (fz n s (F3 kk N pt i j 0) none).ls (cm 22 i j 0 0 0 0).a0.toNat (cm 22 i j 0 0 0 0).a1.toNat = _ from tab_fz (F3 kk N pt i j 0) hi rfl hj none]
  dsimp only
  rw [if_neg (by simp only [List.length_map, List.length_range, cm]; omega), if_neg (by simp [F3, pl, n0])]
  rfl
theorem sumE_rg (g : Nat → En) (z : Nat) : ∀ M, (∀ y, y < M → (g y).size = if y < z then 1 else 0) → sumE ((List.range M).map g) ≤ z
  | 0, _ => by simp [sumE]
  | M + 1, h => by
    have ih := sumE_rg g z M fun y hy => h y (by omega)
    have h1 := h M (by omega)
    have hb : ∀ M', M' ≤ M → M' ≤ z → sumE ((List.range M').map g) ≤ M' := by
      intro M'
      induction M' with
      | zero => intro _ _; simp [sumE]
      | succ M' ih2 =>
        intro h2 h3
        have := ih2 (by omega) (by omega)
        have h4 := h M' (by omega)
        rw [if_pos (by omega)] at h4
        simp only [sumE, List.range_succ, List.map_append, List.map_cons, List.map_nil, List.sum_append, List.sum_cons, List.sum_nil] at this ⊢
        omega
    have hbM := hb M (Nat.le_refl _)
    simp only [sumE, List.range_succ, List.map_append, List.map_cons, List.map_nil, List.sum_append, List.sum_cons, List.sum_nil] at ih hbM ⊢
    split at h1
    · have := hbM (by omega)
      omega
    · omega
theorem lay3w {i j z : Nat} (hi : i < n) (hj : j < kk i) (hz : z < N) (hN : N ≤ 7) : doX (fz n s (F3 kk N pt i j z) (some (i, j, z))) (cm 23 1 j 0 0 0 (wr0 pt z)) = (fz n s (F3 kk N pt i j (z + 1)) (if z + 1 = N then none else some (i, j, z + 1)), [], 0) := by
  rw [doX_run (put_cm (by simp)) (by simp [cm]) (fun h => by simp [cm] at h)]
  show with_ (writeX _ _) = _
  unfold writeX
  simp only [fz]
  have ht := tab_fz (n := n) (s := s) (F3 kk N pt i j z) hi rfl hj (some (i, j, z))
  simp only [fz] at ht
  rw [ht]
  dsimp only
  rw [rg_get _ hz]
  dsimp only
  have hS := sumE_rg (fun y => if i < i ∨ (i = i ∧ (j < j ∨ (j = j ∧ y < z))) then (⟨1, j, wr0 pt y⟩ : En) else e0) z N fun y hy => by
    by_cases hyz : y < z
    · rw [if_pos (by omega), if_pos hyz]
    · rw [if_neg (by omega), if_neg hyz]; rfl
  unfold writeT
  rw [if_neg (by
    simp only [cm]
    rw [if_neg (by omega)]
    intro h
    rcases h with h | h
    · omega
    · simp only [e0] at h hS; omega), if_neg (by simp [F3, pl, n0])]
  unfold with_
  simp only [cm, List.length_map, List.length_range, Prod.mk.injEq, Dq.mk.injEq, true_and, and_true]
  refine fz_set (s := s) _ _ fun k hk => ?_
  by_cases hki : k = i
  · subst hki
    rw [if_pos rfl]
    unfold F3 pl
    simp only [Ls.mk.injEq, and_true]
    unfold tb
    rw [rg_set]
    refine List.map_congr_left fun x hx => ?_
    by_cases hxj : x = j
    · subst hxj
      rw [if_pos rfl, rg_set]
      refine List.map_congr_left fun y hy => ?_
      by_cases hyz : y = z
      · subst hyz
        rw [if_pos rfl]
        exact (if_pos (by
          try simp only [true_and]
          omega)).symm
      · rw [if_neg hyz]
        exact ite_same (by
          try simp only [true_and]
          omega)
    · rw [if_neg hxj]
      refine List.map_congr_left fun y hy => ?_
      exact ite_same (by
        try simp only [true_and]
        omega)
  · rw [if_neg hki]
    unfold F3
    congr 1
    refine tb_congr fun x hx => List.map_congr_left fun y hy => ?_
    exact ite_same (by
      try simp only [true_and]
      omega)
theorem lay33 {i j : Nat} : fz n s (F3 kk N pt i j N) none = fz n s (F3 kk N pt i (j + 1) 0) none := fz_congr fun k hk => by
  unfold F3
  congr 1
  refine tb_congr fun x hx => List.map_congr_left fun y hy => ?_
  have hyN : y < N := List.mem_range.1 hy
  by_cases h : k < i ∨ (k = i ∧ (x < j ∨ (x = j ∧ y < N)))
  · rw [if_pos h, if_pos (by omega)]
  · rw [if_neg h, if_neg (by omega)]
theorem lay34 {i : Nat} : fz n s (F3 kk N pt i (kk i) 0) none = fz n s (F3 kk N pt (i + 1) 0 0) none := fz_congr fun k hk => by
  unfold F3
  congr 1
  refine tb_congr fun x hx => List.map_congr_left fun y hy => ?_
  by_cases h : k < i + 1
  · by_cases hki : k = i
    · subst hki
      rw [if_pos (by omega), if_pos (by omega)]
    · rw [if_pos (by omega), if_pos (by omega)]
  · rw [if_neg (by omega), if_neg (by omega)]
theorem lay35 : fz n s (F3 kk N pt n 0 0) none = fz n s (F4 kk N pt 0) none := fz_congr fun k hk => by
  unfold F3 F4 T4
  rw [if_neg (by omega)]
  congr 1
  refine tb_congr fun x hx => List.map_congr_left fun y hy => ?_
  rw [if_pos (by omega)]
/-- Behind SetMode of list m. -/
def F4m (kk : Nat → Nat) (N : Nat) (pt : Int) (m i : Nat) : Ls := if i < m then ⟨T4 kk N pt i, 0, true, 1, 3, i, false, decide (0 < kk i)⟩ else if i = m then ⟨T4 kk N pt i, 0, true, 1, 3, i, false, false⟩ else pl (T4 kk N pt i)
theorem lay4 {m : Nat} (hm : m < n) : doX (fz n s (F4 kk N pt m) none) (cm 24 m 1 1 3 m 0) = (fz n s (F4m kk N pt m) none, [], 0) := by
  rw [doX_run (put_cm (by simp)) (by simp [cm]) (fun h => by simp [cm] at h)]
  show with_ (modeX _ _) = _
  have hon : (F4 kk N pt m m).on = false := by
    unfold F4
    rw [if_neg (by omega)]
    rfl
  unfold modeX
  rw [show (fz n s (F4 kk N pt m) none).ls[(cm 24 m 1 1 3 m 0).a0.toNat]? = some (F4 kk N pt m m) from rg_get _ hm]
  dsimp only
  rw [if_neg (by simp [fz, cm]), if_neg (by rw [hon]; decide)]
  unfold with_ fz
  simp only [Prod.mk.injEq, Dq.mk.injEq, true_and, and_true]
  show ((List.range n).map (F4 kk N pt m)).set m (modeL (F4 kk N pt m m) true 1 3 m) = _
  refine fz_set (s := s) _ _ fun k hk => ?_
  by_cases hki : k = m
  · subst hki
    rw [if_pos rfl]
    simp [F4, F4m, modeL, pl, n0]
  · rw [if_neg hki]
    unfold F4 F4m
    by_cases hkl : k < m
    · rw [if_pos hkl, if_pos hkl]
    · rw [if_neg hkl, if_neg hkl, if_neg hki]
theorem ready4 {i : Nat} (hN : 0 < N) (x : Ls) (hx : x.tabs = T4 kk N pt i) : readyX x = decide (0 < kk i) := by
  by_cases h : 0 < kk i
  · rw [decide_eq_true h]
    refine ready_of (fun e => ?_) fun t ht => ?_
    · rw [hx] at e
      have := congrArg List.length e
      simp [T4, tb] at this
      omega
    · rw [hx] at ht
      obtain ⟨j, hj, rfl⟩ := List.mem_map.1 ht
      refine ⟨fun e => ?_, fun e he => ?_⟩
      · have := congrArg List.length e
        simp at this
        omega
      · obtain ⟨z, hz, rfl⟩ := List.mem_map.1 he
        show (1 : Int) ≠ 0
        decide
  · rw [decide_eq_false h]
    have : x.tabs = [] := by rw [hx]; exact List.eq_nil_of_length_eq_zero (by simp [T4, tb]; omega)
    unfold readyX
    rw [this]
    rfl
theorem lay4s {m : Nat} (hm : m < n) (hN : 0 < N) : (doX (fz n s (F4m kk N pt m) none) (cm 25 m 2 0 0 0 0)).1 = fz n s (F4 kk N pt (m + 1)) none ∧ (doX (fz n s (F4m kk N pt m) none) (cm 25 m 2 0 0 0 0)).2.2 = if 0 < kk m then 0 else 90 := by
  rw [doX_run (put_cm (by simp)) (by simp [cm]) (fun h => by simp [cm] at h)]
  rw [show runX (fz n s (F4m kk N pt m) none) (cm 25 m 2 0 0 0 0) = startX (fz n s (F4m kk N pt m) none) (cm 25 m 2 0 0 0 0) from rfl]
  have hF : F4m kk N pt m m = ⟨T4 kk N pt m, 0, true, 1, 3, m, false, false⟩ := by
    unfold F4m
    rw [if_neg (by omega), if_pos rfl]
  unfold startX
  rw [show (fz n s (F4m kk N pt m) none).ls[(cm 25 m 2 0 0 0 0).a0.toNat]? = some (F4m kk N pt m m) from rg_get _ hm]
  dsimp only
  rw [if_neg (by simp [cm]), ready4 (i := m) hN (F4m kk N pt m m) (by rw [hF])]
  by_cases h : 0 < kk m
  · rw [if_neg (by simp [h]), if_pos h]
    refine ⟨?_, rfl⟩
    unfold fz
    simp only [Dq.mk.injEq, true_and, and_true]
    show ((List.range n).map (F4m kk N pt m)).set m (startS 2 (F4m kk N pt m m)) = _
    refine fz_set (s := s) _ _ fun k hk => ?_
    by_cases hki : k = m
    · subst hki
      rw [if_pos rfl, hF]
      simp [startS, F4, h]
    · rw [if_neg hki]
      unfold F4 F4m
      by_cases hkl : k < m
      · rw [if_pos hkl, if_pos (by omega)]
      · rw [if_neg hkl, if_neg hki, if_neg (by omega)]
  · rw [if_pos (by simp [h, cm]), if_neg h]
    refine ⟨?_, rfl⟩
    refine fz_congr fun k hk => ?_
    by_cases hki : k = m
    · subst hki
      rw [hF]
      simp [F4, h]
    · unfold F4 F4m
      by_cases hkl : k < m
      · rw [if_pos hkl, if_pos (by omega)]
      · rw [if_neg hkl, if_neg hki, if_neg (by omega)]
theorem lay5 : doX (fz n s (F4 kk N pt n) none) (cm 26 1 0 0 0 0 0) = (fz n s (F5 kk N pt) none, [], 0) := by
  rw [doX_run (put_cm (by simp)) (by simp [cm]) (fun h => by simp [cm] at h)]
  show with_ (allX _ _) = _
  unfold allX
  rw [if_neg (by simp [cm])]
  unfold with_ fz
  simp only [Prod.mk.injEq, Dq.mk.injEq, true_and, and_true]
  rw [List.map_map]
  refine List.map_congr_left fun i hi => ?_
  have hin : i < n := List.mem_range.1 hi
  simp only [Function.comp, F4, if_pos hin, allS, F5, cm]
  by_cases h : 0 < kk i <;> simp [h]
end
end Go.Proofs.Ytjjifldgfihjgaa
