/- Daq: what holds of all lists, whatever commands came. Plain. -/
import Derived.Test.YtjjifldgfihjgaaGG
namespace Go.Proofs.Ytjjifldgfihjgaa
open Go.RowKit
set_option linter.unusedVariables false
set_option linter.unusedSimpArgs false
/-- What holds of a list. -/
structure LsOk (evs : Nat) (x : Ls) : Prop where
  pre : 0 < x.pre ∧ x.pre < 256
  ev : 0 ≤ x.ev ∧ x.ev < evs
  sum : ∀ t ∈ x.tabs, sumE t ≤ 7
  full : x.on = true ∨ x.ch = true → readyX x = true
/-- What holds of all lists. -/
def Good (a : Dq) : Prop := ∀ x ∈ a.ls, LsOk a.evs x
theorem ready_tabs {x y : Ls} (h : y.tabs = x.tabs) : readyX y = readyX x := by unfold readyX; rw [h]
theorem ready_mem {x : Ls} (h : readyX x = true) {t : List En} (ht : t ∈ x.tabs) : t ≠ [] ∧ ∀ e ∈ t, e.size ≠ 0 := by
  unfold readyX at h
  rw [Bool.and_eq_true, List.all_eq_true] at h
  have h1 := h.1 t ht
  rw [Bool.and_eq_true, List.all_eq_true] at h1
  refine ⟨fun e => by rw [e] at h1; simp at h1, fun e he h0 => ?_⟩
  have := h1.2 e he
  rw [h0] at this
  simp at this
theorem ready_of {x : Ls} (h0 : x.tabs ≠ []) (h : ∀ t ∈ x.tabs, t ≠ [] ∧ ∀ e ∈ t, e.size ≠ 0) : readyX x = true := by
  unfold readyX
  rw [Bool.and_eq_true, List.all_eq_true]
  refine ⟨fun t ht => ?_, by cases hx : x.tabs with | nil => exact absurd hx h0 | cons => rfl⟩
  rw [Bool.and_eq_true, List.all_eq_true]
  refine ⟨by cases hx : t with | nil => exact absurd hx (h t ht).1 | cons => rfl, fun e he => ?_⟩
  have := (h t ht).2 e he
  simpa using this
theorem ready_ne {x : Ls} (h : readyX x = true) : x.tabs ≠ [] := fun e => by
  unfold readyX at h
  rw [e] at h
  simp at h
theorem good_set {a : Dq} (h : Good a) {i : Nat} {y : Ls} (hy : LsOk a.evs y) (s : Nat) (p : Option (Nat × Nat × Nat)) : Good ⟨a.evs, s, a.ls.set i y, p⟩ := fun z hz => by
  rcases mem_set_two hz with h1 | rfl
  · exact h z h1
  · exact hy
theorem sumE_set : ∀ (l : List En) (z : Nat) (e e' : En), l[z]? = some e → sumE (l.set z e') + e.size = sumE l + e'.size
  | [], z, e, e', h => by simp at h
  | x :: l, 0, e, e', h => by simp at h; subst h; simp [sumE]; omega
  | x :: l, z + 1, e, e', h => by
    have ih := sumE_set l z e e' (by simpa using h)
    simp only [sumE, List.set_cons_succ, List.map_cons, List.sum_cons] at ih ⊢
    omega
theorem sumE_rep : ∀ n : Nat, sumE (List.replicate n e0) = 0
  | 0 => rfl
  | n + 1 => by have := sumE_rep n; simp only [sumE, List.replicate_succ, List.map_cons, List.sum_cons] at this ⊢; rw [this]; rfl
theorem good_free {a : Dq} : Good (freeX a) := fun x hx => by cases hx
theorem good_alloc {a : Dq} (he : 1 ≤ a.evs) (n : Nat) : Good (allocX a n) := fun x hx => by
  rw [List.eq_of_mem_replicate hx]
  exact ⟨by decide, ⟨by decide, by show (0 : Int) < ((a.evs : Nat) : Int); omega⟩, (fun t ht => by cases ht), fun h => by rcases h with h | h <;> cases h⟩
theorem good_odts {a : Dq} (h : Good a) (c : Cm) : Good (odtsX a c).1 := by
  unfold odtsX odtsN
  split
  · exact h
  split
  · exact h
  · rename_i x hx
    split
    · exact h
    split
    · exact h
    · have hx' := h x (List.mem_of_getElem? hx)
      have h0 : x.tabs = [] := List.eq_nil_of_length_eq_zero (by omega)
      exact good_set h (y := { x with tabs := List.replicate c.a1.toNat [] }) ⟨hx'.pre, hx'.ev, fun t ht => by rw [List.eq_of_mem_replicate ht]; decide, fun hh => absurd h0 (ready_ne (hx'.full hh))⟩ _ _
theorem tabOf_inv {ls : List Ls} {i k : Nat} {x : Ls} {t : List En} (h : tabOf ls i k = some (x, t)) : ls[i]? = some x ∧ x.tabs[k]? = some t := by
  unfold tabOf at h
  cases hx : ls[i]? with
  | none => rw [hx] at h; cases h
  | some y =>
    rw [hx] at h
    cases ht : y.tabs[k]? with
    | none => simp [ht] at h
    | some u =>
      simp [ht] at h
      obtain ⟨rfl, rfl⟩ := h
      exact ⟨rfl, ht⟩
theorem good_ents {a : Dq} (h : Good a) (c : Cm) : Good (entsX a c).1 := by
  unfold entsX entsN
  split
  · exact h
  split
  · exact h
  · rename_i x t hxt
    obtain ⟨hx, ht⟩ := tabOf_inv hxt
    split
    · exact h
    split
    · exact h
    · have hx' := h x (List.mem_of_getElem? hx)
      have h0 : t = [] := List.eq_nil_of_length_eq_zero (by omega)
      refine good_set h (y := { x with tabs := x.tabs.set c.a1.toNat (List.replicate c.a2.toNat e0) }) ⟨hx'.pre, hx'.ev, fun u hu => ?_, fun hh => absurd h0 (ready_mem (hx'.full hh) (List.mem_of_getElem? ht)).1⟩ _ _
      rcases mem_set_two hu with h1 | rfl
      · exact hx'.sum u h1
      · rw [sumE_rep]; decide
theorem good_point {a : Dq} (h : Good a) (c : Cm) : Good (pointX a c).1 := by
  unfold pointX
  split
  · exact h
  split
  · exact h
  split
  · exact h
  · exact h
theorem good_write {a : Dq} (h : Good a) (c : Cm) : Good (writeX a c).1 := by
  unfold writeX
  split
  · exact h
  split
  · exact h
  · rename_i i k z hp _ x t hxt
    obtain ⟨hx, ht⟩ := tabOf_inv hxt
    split
    · exact h
    · rename_i e he
      unfold writeT
      split
      · exact h
      · rename_i h1
        split
        · exact h
        · have hx' := h x (List.mem_of_getElem? hx)
          have hs := sumE_set t z e ⟨c.a0, c.a1, c.w⟩ he
          refine good_set h (y := { x with tabs := x.tabs.set k (t.set z ⟨c.a0, c.a1, c.w⟩) }) ⟨hx'.pre, hx'.ev, fun u hu => ?_, fun hh => ?_⟩ _ _
          · rcases mem_set_two hu with h2 | rfl
            · exact hx'.sum u h2
            · simp only at hs; omega
          · have hr := hx'.full hh
            refine ready_of (fun e => ?_) fun u hu => ?_
            · have := congrArg List.length e
              simp only [List.length_set, List.length_nil] at this
              exact ready_ne hr (List.eq_nil_of_length_eq_zero this)
            · rcases mem_set_two hu with h2 | rfl
              · exact ready_mem hr h2
              · have hm := ready_mem hr (List.mem_of_getElem? ht)
                refine ⟨fun e => ?_, fun y hy => ?_⟩
                · have := congrArg List.length e
                  simp only [List.length_set, List.length_nil] at this
                  exact hm.1 (List.eq_nil_of_length_eq_zero this)
                · rcases mem_set_two hy with h3 | rfl
                  · exact hm.2 y h3
                  · show c.a0 ≠ 0
                    omega
theorem good_mode {a : Dq} (h : Good a) (c : Cm) (hc : c.wf) : Good (modeX a c).1 := by
  unfold modeX
  split
  · exact h
  · rename_i x hx
    split
    · exact h
    · rename_i h1
      split
      · exact h
      · have hx' := h x (List.mem_of_getElem? hx)
        have := hc.h3
        have := hc.h2
        exact good_set h (y := modeL x (c.a1 == 1) c.a2 c.a3 c.a4) ⟨by show 0 < c.a3 ∧ c.a3 < 256; omega, by show 0 ≤ c.a2 ∧ c.a2 < ((a.evs : Nat) : Int); omega, hx'.sum, fun hh => (ready_tabs (x := x) rfl).trans (hx'.full hh)⟩ _ _
theorem start_tabs (v : Int) (x : Ls) : (startS v x).tabs = x.tabs ∧ (startS v x).pre = x.pre ∧ (startS v x).ev = x.ev ∧ (startS v x).first = x.first ∧ (startS v x).stim = x.stim ∧ (startS v x).pri = x.pri := by
  unfold startS
  split
  · exact ⟨rfl, rfl, rfl, rfl, rfl, rfl⟩
  split
  · exact ⟨rfl, rfl, rfl, rfl, rfl, rfl⟩
  · exact ⟨rfl, rfl, rfl, rfl, rfl, rfl⟩
theorem good_start {a : Dq} (h : Good a) (c : Cm) (hc : c.wf) : Good (startX a c).1 := by
  unfold startX
  split
  · exact h
  · rename_i x hx
    split
    · exact h
    split
    · exact h
    · rename_i h1 h2
      have hx' := h x (List.mem_of_getElem? hx)
      obtain ⟨e1, e2, e3, -⟩ := start_tabs c.a1 x
      have h0 := hc.h1.1
      refine good_set h (y := startS c.a1 x) ⟨by rw [e2]; exact hx'.pre, by rw [e3]; exact hx'.ev, fun t ht => hx'.sum t (by rw [← e1]; exact ht), fun hh => ?_⟩ _ _
      rw [ready_tabs e1]
      by_cases h0 : 0 < c.a1
      · cases hr : readyX x with
        | true => rfl
        | false => exact absurd ⟨h0, hr⟩ h2
      · exfalso
        have : c.a1 = 0 := by omega
        rw [this] at hh
        rcases hh with hh | hh <;> cases hh
theorem good_all {a : Dq} (h : Good a) (c : Cm) : Good (allX a c).1 := by
  unfold allX
  split
  · exact h
  · intro z hz
    obtain ⟨x, hx, rfl⟩ := List.mem_map.1 hz
    have hx' := h x hx
    refine ⟨hx'.pre, hx'.ev, hx'.sum, fun hh => ?_⟩
    rw [ready_tabs (y := allS c.a0 x) (x := x) rfl]
    rcases hh with hh | hh
    · unfold allS at hh
      simp only at hh
      split at hh
      · rename_i h2
        rw [Bool.or_eq_true] at h2
        rcases h2 with h2 | h2
        · exact hx'.full (.inr h2)
        · have e0 : c.a0 = 0 := by simpa using h2
          rw [e0] at hh
          cases hh
      · exact hx'.full (.inl hh)
    · cases hh
theorem evs_run (a : Dq) (c : Cm) : (doX a c).1.evs = a.evs := by
  unfold doX
  split
  · rfl
  split
  · rfl
  split
  · rfl
  unfold runX with_
  split
  · rfl
  split
  · unfold allocY
    split
    · rfl
    split <;> rfl
  split
  · unfold odtsX odtsN
    split
    · rfl
    split
    · rfl
    split
    · rfl
    split <;> rfl
  split
  · unfold entsX entsN
    split
    · rfl
    split
    · rfl
    split
    · rfl
    split <;> rfl
  split
  · unfold pointX
    split
    · rfl
    split
    · rfl
    split <;> rfl
  split
  · unfold writeX
    split
    · rfl
    split
    · rfl
    split
    · rfl
    unfold writeT
    split
    · rfl
    split <;> rfl
  split
  · unfold modeX
    split
    · rfl
    split
    · rfl
    split <;> rfl
  split
  · unfold startX
    split
    · rfl
    split
    · rfl
    split <;> rfl
  · unfold allX
    split <;> rfl
theorem good_do {a : Dq} (h : Good a) (he : 1 ≤ a.evs) (c : Cm) (hc : c.wf) : Good (doX a c).1 := by
  unfold doX
  split
  · exact h
  split
  · exact h
  split
  · exact h
  unfold runX with_
  split
  · exact good_free
  split
  · unfold allocY
    split
    · exact h
    split
    · exact h
    · exact good_alloc he _
  split
  · exact good_odts h c
  split
  · exact good_ents h c
  split
  · exact good_point h c
  split
  · exact good_write h c
  split
  · exact good_mode h c hc
  split
  · exact good_start h c hc
  · exact good_all h c
/-- Where an error is told nothing is changed. -/
theorem do_err {a : Dq} {c : Cm} (h : (doX a c).2.2 ≠ 0) : (doX a c).1 = a := by
  unfold doX at h ⊢
  split
  · rfl
  split
  · rfl
  split
  · rfl
  rename_i h1 h2 h3
  rw [if_neg h1, if_neg h2, if_neg h3] at h
  unfold runX with_ at h ⊢
  split
  · rename_i h4; rw [if_pos h4] at h; exact absurd rfl h
  rename_i h4; rw [if_neg h4] at h
  split
  · rename_i h4; rw [if_pos h4] at h
    unfold allocY at h ⊢
    split
    · rfl
    rename_i k1; rw [if_neg k1] at h
    split
    · rfl
    · rename_i k1; rw [if_neg k1] at h; exact absurd rfl h
  rename_i h4; rw [if_neg h4] at h
  split
  · rename_i h4; rw [if_pos h4] at h
    unfold odtsX odtsN at h ⊢
    split
    · rfl
    rename_i k1; rw [if_neg k1] at h
    split
    · rfl
    rename_i x hx
    rw [hx] at h
    simp only at h
    split
    · rfl
    rename_i k1; rw [if_neg k1] at h
    split
    · rfl
    · rename_i k1; rw [if_neg k1] at h; exact absurd rfl h
  rename_i h4; rw [if_neg h4] at h
  split
  · rename_i h4; rw [if_pos h4] at h
    unfold entsX entsN at h ⊢
    split
    · rfl
    rename_i k1; rw [if_neg k1] at h
    split
    · rfl
    rename_i x t hx
    rw [hx] at h
    simp only at h
    split
    · rfl
    rename_i k1; rw [if_neg k1] at h
    split
    · rfl
    · rename_i k1; rw [if_neg k1] at h; exact absurd rfl h
  rename_i h4; rw [if_neg h4] at h
  split
  · rename_i h4; rw [if_pos h4] at h
    unfold pointX at h ⊢
    split
    · rfl
    rename_i x t hx
    rw [hx] at h
    simp only at h
    split
    · rfl
    rename_i k1; rw [if_neg k1] at h
    split
    · rfl
    · rename_i k1; rw [if_neg k1] at h; exact absurd rfl h
  rename_i h4; rw [if_neg h4] at h
  split
  · rename_i h4; rw [if_pos h4] at h
    unfold writeX at h ⊢
    split
    · rfl
    rename_i i k z hp
    rw [hp] at h
    simp only at h
    split
    · rfl
    rename_i x t hx
    rw [hx] at h
    simp only at h
    split
    · rfl
    rename_i e hx
    rw [hx] at h
    simp only at h
    unfold writeT at h ⊢
    split
    · rfl
    rename_i k1; rw [if_neg k1] at h
    split
    · rfl
    · rename_i k1; rw [if_neg k1] at h; exact absurd rfl h
  rename_i h4; rw [if_neg h4] at h
  split
  · rename_i h4; rw [if_pos h4] at h
    unfold modeX at h ⊢
    split
    · rfl
    rename_i x hx
    rw [hx] at h
    simp only at h
    split
    · rfl
    rename_i k1; rw [if_neg k1] at h
    split
    · rfl
    · rename_i k1; rw [if_neg k1] at h; exact absurd rfl h
  rename_i h4; rw [if_neg h4] at h
  split
  · rename_i h4; rw [if_pos h4] at h
    unfold startX at h ⊢
    split
    · rfl
    rename_i x hx
    rw [hx] at h
    simp only at h
    split
    · rfl
    rename_i k1; rw [if_neg k1] at h
    split
    · rfl
    · rename_i k1; rw [if_neg k1] at h; exact absurd rfl h
  · rename_i h4; rw [if_neg h4] at h
    unfold allX at h ⊢
    split
    · rfl
    · rename_i k1; rw [if_neg k1] at h; exact absurd rfl h
/-- A list but whether it runs, or is chosen. -/
def Ls.core (x : Ls) : List (List En) × Int × Bool × Int × Int × Int := (x.tabs, x.first, x.stim, x.ev, x.pre, x.pri)
/-- While lists run: which of them run stays as they are, and all have as many tables as they had. -/
def Stay (l l' : List Ls) : Prop := l'.map (fun x => x.tabs.length) = l.map (fun x => x.tabs.length) ∧ ∀ (i : Nat) (x : Ls), l[i]? = some x → x.on = true → ∃ y : Ls, l'[i]? = some y ∧ y.core = x.core
theorem Stay.refl (l : List Ls) : Stay l l := ⟨rfl, fun i x hx _ => ⟨x, hx, rfl⟩⟩
theorem stay_set {l : List Ls} {i : Nat} {x y : Ls} (hx : l[i]? = some x) (hl : y.tabs.length = x.tabs.length) (h : x.on = true → y.core = x.core) : Stay l (l.set i y) := by
  refine ⟨set_map _ l i x y hx hl, fun j z hz hon => ?_⟩
  by_cases hj : j = i
  · subst hj
    rw [hx] at hz
    injection hz with hz
    subst hz
    exact ⟨y, List.getElem?_set_self (List.getElem?_eq_some_iff.1 hx).1, h hon⟩
  · exact ⟨z, by rw [List.getElem?_set_ne (fun e => hj e.symm)]; exact hz, rfl⟩
theorem stay_map {l : List Ls} (f : Ls → Ls) (h : ∀ x, (f x).core = x.core) : Stay l (l.map f) := by
  refine ⟨?_, fun i x hx _ => ⟨f x, by simp [hx], h x⟩⟩
  rw [List.map_map]
  congr 1
  funext x
  have := congrArg (fun z => z.1.length) (h x)
  exact this
theorem do_stay {a : Dq} {c : Cm} (hr : runsX a.ls = true) : Stay a.ls (doX a c).1.ls := by
  unfold doX
  split
  · exact Stay.refl _
  split
  · exact Stay.refl _
  split
  · exact Stay.refl _
  rename_i h1 h2 h3
  have h4 : ¬ c.code ≤ 21 := fun h => h3 ⟨h, hr⟩
  unfold runX with_
  rw [if_neg (by omega), if_neg (by omega), if_neg (by omega), if_neg (by omega)]
  split
  · unfold pointX
    split
    · exact Stay.refl _
    split
    · exact Stay.refl _
    split
    · exact Stay.refl _
    · exact Stay.refl _
  split
  · unfold writeX
    split
    · exact Stay.refl _
    split
    · exact Stay.refl _
    rename_i i k z hp _ x t hxt
    obtain ⟨hx, ht⟩ := tabOf_inv hxt
    split
    · exact Stay.refl _
    unfold writeT
    split
    · exact Stay.refl _
    split
    · exact Stay.refl _
    · rename_i ho
      exact stay_set hx List.length_set (fun h => absurd h ho)
  split
  · unfold modeX
    split
    · exact Stay.refl _
    rename_i x hx
    split
    · exact Stay.refl _
    split
    · exact Stay.refl _
    · rename_i ho
      exact stay_set hx rfl (fun h => absurd h ho)
  split
  · unfold startX
    split
    · exact Stay.refl _
    rename_i x hx
    split
    · exact Stay.refl _
    split
    · exact Stay.refl _
    · obtain ⟨e1, e2, e3, e4, e5, e6⟩ := start_tabs c.a1 x
      exact stay_set hx (by rw [e1]) (fun h => by unfold Ls.core; rw [e1, e2, e3, e4, e5, e6])
  · unfold allX
    split
    · exact Stay.refl _
    · exact stay_map _ fun x => rfl
theorem runs_of {l : List Ls} {i : Nat} {x : Ls} (h : l[i]? = some x) (ho : x.on = true) : runsX l = true := List.any_eq_true.2 ⟨x, List.mem_of_getElem? h, ho⟩
theorem many_map {l l' : List Ls} (h : l'.map (fun x => x.tabs.length) = l.map (fun x => x.tabs.length)) (i : Nat) : manyT (l'.take i) = manyT (l.take i) := by
  unfold manyT
  rw [List.map_take, List.map_take, h]
/-- DaqStays: a list that runs is told as it was. -/
theorem lists_stay {l l' : List Ls} (h : runsX l = true → Stay l l') {i : Nat} {x : Ls} (hx : (listsX l)[i]? = some x) (ho : x.on = true) : ∃ y, (listsX l')[i]? = some y ∧ ({ y with on := x.on, ch := x.ch } : Ls) = x := by
  unfold listsX at hx ⊢
  rw [lsts_get] at hx
  cases hz : l[i]? with
  | none => rw [hz] at hx; cases hx
  | some z =>
    rw [hz] at hx
    simp only [Option.map_some, Option.some.injEq, Nat.zero_add] at hx
    subst hx
    obtain ⟨h1, h2⟩ := h (runs_of hz ho)
    obtain ⟨y, hy, hc⟩ := h2 i z hz ho
    refine ⟨{ y with first := ((manyT (l'.take i) : Nat) : Int) }, by rw [lsts_get, hy]; simp, ?_⟩
    rw [many_map h1 i]
    unfold Ls.core at hc
    simp only [Prod.mk.injEq] at hc
    obtain ⟨c1, c2, c3, c4, c5, c6⟩ := hc
    simp only [c1, c3, c4, c5, c6]
end Go.Proofs.Ytjjifldgfihjgaa
