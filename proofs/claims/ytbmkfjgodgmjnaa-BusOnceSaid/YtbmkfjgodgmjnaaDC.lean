/- BusOnce: the plain law. -/
import Derived.Test.YtbmkfjgodgmjnaaDA
namespace Go.Proofs.Ytbmkfjgodgmjnaa
open Go.RowKit
set_option linter.unusedVariables false
set_option linter.unusedSimpArgs false
theorem perm_cut {l : List Fr} {f : Fr} {m : List (List Value)} {a : Nat} {g : Fr} (hg : l[a]? = some g) (he : g.cs = f.cs) (hp : (l.map Fr.cs).Perm (f.cs :: m)) : ((l.take a ++ l.drop (a + 1)).map Fr.cs).Perm m := by
  have ha : a < l.length := (List.getElem?_eq_some_iff.1 hg).1
  have hga : l[a] = g := (List.getElem?_eq_some_iff.1 hg).2
  have e : l = l.take a ++ g :: l.drop (a + 1) := by
    rw [← hga, List.getElem_cons_drop, List.take_append_drop]
  rw [e, List.map_append, List.map_cons, he] at hp
  rw [List.map_append]
  have h2 : (f.cs :: (List.map Fr.cs (l.take a) ++ List.map Fr.cs (l.drop (a + 1)))).Perm (f.cs :: m) := List.perm_middle.symm.trans hp
  exact h2.cons_inv
abbrev flA : List Flt := [⟨0, 0, false⟩, ⟨0, 0, true⟩]
def ofl (i : Nat) : List Flt := if i = 2 then flA else []
theorem all_may (a : Bx) (h : a.fl = flA) (f : Fr) (hf : f.wf) (hm : f.may = true) : takeB a f = true := by
  have h2 := lets_all f hf
  unfold takeB anyB
  rw [h, hm, List.any_cons, List.any_cons]
  cases he : f.ext
  · rw [he] at h2
    rw [h2]
    simp
  · rw [he] at h2
    rw [h2]
    simp
/-- What stands while l is still to go and m went. -/
structure ON (s : Nat → Bx) (q : Nat → Nat) (l : List Fr) (m : Nat) : Prop where
  fl : ∀ i, i < 3 → (s (q i)).fl = ofl i
  t2 : (s (q 2)).tx = []
  my : ∀ i, i < 3 → ∀ x ∈ (s (q i)).tx, x.may = true
  wf : ∀ i, i < 3 → ∀ x ∈ (s (q i)).tx, x.wf
  rx : (s (q 2)).rx.length = min m 4
  lo : (s (q 2)).lost = decide (4 < m)
  pm : (l.map Fr.cs).Perm ((s (q 0)).tx.map Fr.cs ++ (s (q 1)).tx.map Fr.cs)
theorem ON.len {s : Nat → Bx} {q : Nat → Nat} {l : List Fr} {m : Nat} (h : ON s q l m) : l.length = (s (q 0)).tx.length + (s (q 1)).tx.length := by
  have := h.pm.length_eq
  simpa using this
theorem on_start {s : Nat → Bx} {q : Nat → Nat} (h : ∀ i, i < 3 → s (q i) = b0 (ofl i)) : ON s q [] 0 := by
  have h0 := h 0 (by decide)
  have h1 := h 1 (by decide)
  have h2 := h 2 (by decide)
  refine ⟨fun i hi => by rw [h i hi], by rw [h2], fun i hi x hx => ?_, fun i hi x hx => ?_, by rw [h2]; rfl, by rw [h2]; rfl, by rw [h0, h1]; exact List.Perm.refl _⟩
  · rw [h i hi] at hx; cases hx
  · rw [h i hi] at hx; cases hx
theorem ins_perm (l : List Fr) (f : Fr) : ((insB l f).map Fr.cs).Perm (f.cs :: l.map Fr.cs) := by
  unfold insB
  rw [List.map_append, List.map_cons]
  refine List.perm_middle.trans ?_
  rw [← List.map_append, List.take_append_drop]
theorem on_skip {s : Nat → Bx} {q : Nat → Nat} {i : Nat} {f : Fr} (hm : f.may = false) : sendE (s (q i)) f = 1 ∧ upd s (q i) (sendX (s (q i)) f) = s := by
  have hE : sendE (s (q i)) f = 1 := by
    unfold sendE
    rw [hm, if_pos rfl]
  refine ⟨hE, ?_⟩
  unfold sendX
  rw [hE, if_neg (by decide), upd_self]
theorem on_send {s : Nat → Bx} {q : Nat → Nat} (hq : inj3 q) {l : List Fr} {m : Nat} (h : ON s q l m) {i : Nat} (hi : i < 2) {f : Fr} (hf : f.wf) (hm : f.may = true) (hl : (s (q i)).tx.length < 3) :
    sendE (s (q i)) f = 0 ∧ ON (upd s (q i) (sendX (s (q i)) f)) q (l ++ [f]) m := by
  have hE : sendE (s (q i)) f = 0 := by
    unfold sendE
    rw [hm, if_neg (by simp), if_neg (by omega)]
  have hX : sendX (s (q i)) f = { s (q i) with tx := insB (s (q i)).tx f } := by
    unfold sendX
    rw [if_pos hE]
  have hu : ∀ j, j < 3 → upd s (q i) (sendX (s (q i)) f) (q j) = if j = i then { s (q i) with tx := insB (s (q i)).tx f } else s (q j) := fun j hj => by
    by_cases hji : j = i
    · subst hji; rw [upd_eq, if_pos rfl, hX]
    · rw [upd_ne _ _ (fun e => hji (hq j i hj (by omega) e)), if_neg hji]
  have u2 : upd s (q i) (sendX (s (q i)) f) (q 2) = s (q 2) := by rw [hu 2 (by decide), if_neg (by omega)]
  refine ⟨hE, ⟨fun j hj => ?_, by rw [u2]; exact h.t2, fun j hj x hx => ?_, fun j hj x hx => ?_, by rw [u2]; exact h.rx, by rw [u2]; exact h.lo, ?_⟩⟩
  · rw [hu j hj]
    split
    · next e => subst e; exact h.fl j hj
    · exact h.fl j hj
  · rw [hu j hj] at hx
    split at hx
    · next e =>
      subst e
      rcases insB_mem _ _ _ hx with hx | rfl
      · exact h.my j hj x hx
      · exact hm
    · exact h.my j hj x hx
  · rw [hu j hj] at hx
    split at hx
    · next e =>
      subst e
      rcases insB_mem _ _ _ hx with hx | rfl
      · exact h.wf j hj x hx
      · exact hf
    · exact h.wf j hj x hx
  · have p1 : ((l ++ [f]).map Fr.cs).Perm (f.cs :: ((s (q 0)).tx.map Fr.cs ++ (s (q 1)).tx.map Fr.cs)) := by
      rw [List.map_append]
      exact (List.perm_append_comm.trans (List.Perm.refl _)).trans (List.Perm.cons _ h.pm)
    refine p1.trans ?_
    rw [hu 0 (by decide), hu 1 (by decide)]
    rcases (by omega : i = 0 ∨ i = 1) with rfl | rfl
    · rw [if_pos rfl, if_neg (by decide)]
      exact (List.Perm.append_right _ (ins_perm _ f).symm)
    · rw [if_neg (by decide), if_pos rfl]
      exact List.perm_middle.symm.trans (List.Perm.append_left _ (ins_perm _ f).symm)
theorem ON.send_wait {s : Nat → Bx} {q : Nat → Nat} {l : List Fr} {m : Nat} (h : ON s q l m) : True := trivial
/-- A Turn, where something is to be sent: the frame stands in the law's row; without it the state is as before. -/
theorem on_turn {s : Nat → Bx} {q : Nat → Nat} (hq : inj3 q) {l : List Fr} {m : Nat} (h : ON s q l m) (hn : 0 < l.length) :
    ∃ (i : Nat) (f : Fr), i < 3 ∧ turnV (nodesL q) s 3 = (i, f, true) ∧ f ∈ (s (q i)).tx ∧ (∃ (k : Nat) (g : Fr), l[k]? = some g ∧ g.cs = f.cs) ∧
      ∀ (k : Nat) (g : Fr), l[k]? = some g → g.cs = f.cs → ON (turnS (nodesL q) s 3 false) q (l.take k ++ l.drop (k + 1)) (m + 1) := by
  have hlen := h.len
  have hok : (fstK (nodesL q) s 3).2.2 = true := by
    cases ho : (fstK (nodesL q) s 3).2.2 with
    | true => rfl
    | false =>
      exfalso
      have e : ∀ i, i < 3 → (s (q i)).tx.length = 0 := fun i hi => by
        have := fst_none 3 ho i hi _ (nodesL_get q hi)
        rw [hd_some] at this
        simpa using this
      have e0 := e 0 (by decide)
      have e1 := e 1 (by decide)
      omega
  have hi := (fstK_lt (nodesL q) s 3).2 hok
  obtain ⟨x, hx, hf, hne⟩ := fstK_some (nodesL q) s 3 hok
  obtain ⟨⟨i, f, b⟩, hF⟩ : ∃ z, fstK (nodesL q) s 3 = z := ⟨_, rfl⟩
  rw [hF] at hok hi hx hf
  simp only at hok hi hx hf
  subst hok
  rw [nodesL_get q hi] at hx
  simp only [Option.some.injEq] at hx
  subst hx
  obtain ⟨y, r, hl⟩ : ∃ y r, (s (q i)).tx = y :: r := by
    cases hl : (s (q i)).tx with
    | nil => exact absurd hl hne
    | cons y l => exact ⟨y, l, rfl⟩
  obtain rfl : f = y := by rw [hl] at hf; exact hf
  have hi2 : i < 2 := by
    rcases (by omega : i < 2 ∨ i = 2) with h2 | rfl
    · exact h2
    · rw [h.t2] at hl; cases hl
  have hmem : f ∈ (s (q i)).tx := by rw [hl]; simp
  have hfw := h.wf i hi f hmem
  have hfm := h.my i hi f hmem
  have hS : ∀ j, j < 3 → turnS (nodesL q) s 3 false (q j) = if j = i then { s (q i) with tx := r } else takeX (s (q j)) f := fun j hj => by
    unfold turnS
    rw [hF]
    simp only [if_true, nodesL_get q hi]
    rw [afterT_at hq s hi f false j hj, hl]
    by_cases hji : j = i
    · rw [if_pos hji, if_pos hji]; rfl
    · rw [if_neg hji, if_neg hji]
      simp
  have hno : ∀ j, j < 2 → takeX (s (q j)) f = s (q j) := fun j hj => takeX_no _ f (by rw [h.fl j (by omega)]; unfold ofl; rw [if_neg (by omega)])
  have h22 : turnS (nodesL q) s 3 false (q 2) = takeX (s (q 2)) f := by rw [hS 2 (by decide), if_neg (by omega)]
  have htk := all_may (s (q 2)) (by rw [h.fl 2 (by decide)]; rfl) f hfw hfm
  have hX2 : takeX (s (q 2)) f = if (s (q 2)).rx.length < 4 then { s (q 2) with rx := (s (q 2)).rx ++ [f] } else { s (q 2) with lost := true } := by
    unfold takeX
    rw [htk, if_pos rfl]
  have hpm : (l.map Fr.cs).Perm (f.cs :: ((turnS (nodesL q) s 3 false (q 0)).tx.map Fr.cs ++ (turnS (nodesL q) s 3 false (q 1)).tx.map Fr.cs)) := by
    refine h.pm.trans ?_
    rw [hS 0 (by decide), hS 1 (by decide)]
    rcases (by omega : i = 0 ∨ i = 1) with rfl | rfl
    · rw [if_pos rfl, if_neg (by decide), hno 1 (by decide), hl]
      exact List.Perm.refl _
    · rw [if_neg (by decide), if_pos rfl, hno 0 (by decide), hl]
      exact List.perm_middle
  refine ⟨i, f, hi, by unfold turnV; rw [hF]; rfl, hmem, ?_, fun k g hk hg => ⟨fun j hj => ?_, ?_, fun j hj z hz => ?_, fun j hj z hz => ?_, ?_, ?_, perm_cut hk hg hpm⟩⟩
  · have hm : f.cs ∈ l.map Fr.cs := hpm.mem_iff.2 (List.mem_cons_self ..)
    obtain ⟨g, hg, he⟩ := List.mem_map.1 hm
    obtain ⟨k, hk⟩ := List.mem_iff_getElem?.1 hg
    exact ⟨k, g, hk, he⟩
  · rw [hS j hj]
    split
    · next e => subst e; exact h.fl j hj
    · rw [← h.fl j hj]
      unfold takeX
      split
      · split <;> rfl
      · rfl
  · rw [h22, takeX_tx]; exact h.t2
  · rw [hS j hj] at hz
    split at hz
    · next e => subst e; exact h.my j hj z (by rw [hl]; exact .tail _ hz)
    · rw [takeX_tx] at hz; exact h.my j hj z hz
  · rw [hS j hj] at hz
    split at hz
    · next e => subst e; exact h.wf j hj z (by rw [hl]; exact .tail _ hz)
    · rw [takeX_tx] at hz; exact h.wf j hj z hz
  · have hrx := h.rx
    rw [h22, hX2]
    split
    · simp only [List.length_append, List.length_cons, List.length_nil]; omega
    · simp only; omega
  · have hrx := h.rx
    have hlo := h.lo
    rw [h22, hX2]
    split
    · rw [show ({ s (q 2) with rx := (s (q 2)).rx ++ [f] } : Bx).lost = (s (q 2)).lost from rfl, hlo, decide_eq_decide]; omega
    · rw [show ({ s (q 2) with lost := true } : Bx).lost = true from rfl, eq_comm, decide_eq_true_eq]; omega
/-- Where l is empty. -/
theorem on_end {s : Nat → Bx} {q : Nat → Nat} {m : Nat} (h : ON s q [] m) : (s (q 2)).rx.length = min m 4 ∧ (s (q 2)).lost = decide (4 < m) := ⟨h.rx, h.lo⟩
theorem eqb_iff (f g : Fr) : f.eqb g = true ↔ f.cs = g.cs := by
  simp only [Fr.eqb, Fr.cs, Bool.and_eq_true, beq_iff_eq, List.cons.injEq, Value.int.injEq, Value.bool.injEq, true_and, and_true]
  constructor
  · rintro ⟨h1, h2, h3, ⟨⟨⟨⟨⟨⟨⟨a0, a1⟩, a2⟩, a3⟩, a4⟩, a5⟩, a6⟩, a7⟩⟩
    exact ⟨h1, h2, h3, a0, a1, a2, a3, a4, a5, a6, a7⟩
  · rintro ⟨h1, h2, h3, a0, a1, a2, a3, a4, a5, a6, a7⟩
    exact ⟨h1, h2, h3, ⟨⟨⟨⟨⟨⟨⟨a0, a1⟩, a2⟩, a3⟩, a4⟩, a5⟩, a6⟩, a7⟩⟩
end Go.Proofs.Ytbmkfjgodgmjnaa
