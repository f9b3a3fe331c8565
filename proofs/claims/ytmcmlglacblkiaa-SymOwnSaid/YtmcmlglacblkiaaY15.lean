/- sym's tables: what a table holds; New, Find. -/
import Derived.Test.YtmcmlglacblkiaaY14
import Derived.Maps.Own
import Derived.Maps.Views
namespace Go.Proofs.Ytmcmlglacblkiaa
open Go.RowKit Go.Maps
set_option linter.unusedVariables false
set_option linter.unusedSimpArgs false
/-- A map's element reads as itself. -/
def RV : Value → Option (DataW Value × List MemPlace) := fun v => some (.held v, [])
def kyS (n : ByteArray) : Lit := .string n.data.toList
/-- What a table of names holds. -/
def LD (l : List Sy) : DataW Value := l.foldl (fun D s => D.put (kyS s.nm) (.held s.val)) (.map [])
theorem LD_snoc (l : List Sy) (s : Sy) : LD (l ++ [s]) = (LD l).put (kyS s.nm) (.held s.val) := by simp [LD, List.foldl_append]
theorem kyS_key (n : ByteArray) : WideAt.IsKeyLit (kyS n) := trivial
theorem kyS_inj {a b : ByteArray} (h : kyS a = kyS b) : a.toList = b.toList := by
  unfold kyS at h
  injection h with h
  rw [ByteArray.toList_eq, ByteArray.toList_eq, h]
theorem kyS_eq {a b : ByteArray} (h : (a.toList == b.toList) = true) : kyS a = kyS b := by
  have := eq_of_beq h
  rw [ByteArray.toList_eq, ByteArray.toList_eq] at this
  unfold kyS
  rw [this]
theorem LD_tidy : ∀ (l : List Sy) (D : DataW Value), Tidy D → Tidy (l.foldl (fun D s => D.put (kyS s.nm) (.held s.val)) D)
  | [], _, h => h
  | s :: l, D, h => LD_tidy l _ (h.put (kyS_key _) _)
theorem tidy_LD (l : List Sy) : Tidy (LD l) := LD_tidy l _ tidy_empty
theorem has_LD (l : List Sy) (n : ByteArray) : has (LD l) (kyS n) = l.any fun s => s.nm.toList == n.toList := by
  have key : ∀ (k : Nat), k ≤ l.length → has (LD (l.take k)) (kyS n) = (l.take k).any fun s => s.nm.toList == n.toList := fun k => by
    induction k with
    | zero => intro _; rfl
    | succ k ih =>
      intro hk
      have hl : k < l.length := by omega
      rw [List.take_succ_eq_append_getElem hl, LD_snoc, List.any_append]
      cases he : (l[k].nm.toList == n.toList)
      · have hne : kyS n ≠ kyS l[k].nm := fun e => by
          rw [kyS_inj e] at he
          simp at he
        rw [has_put_other hne, ih (by omega)]
        simp [he]
      · rw [← kyS_eq he, has_put_same (tidy_LD _).isMap (kyS_key _)]
        simp [he]
  have := key l.length (Nat.le_refl _)
  rwa [List.take_length] at this
theorem size_snoc (l : List Sy) (s : Sy) : Maps.size (LD (l ++ [s])) = if l.any (fun t => t.nm.toList == s.nm.toList) then Maps.size (LD l) else Maps.size (LD l) + 1 := by
  rw [LD_snoc, size_put (tidy_LD l), has_LD]
theorem take_dup (l : List Sy) (k : Nat) (hk : k < l.length) (h : (l.take k).any (fun t => t.nm.toList == l[k].nm.toList) = true) : Dup l := by
  rw [List.any_eq_true] at h
  obtain ⟨t, ht, he⟩ := h
  obtain ⟨j, hj, rfl⟩ := List.mem_iff_getElem.1 ht
  rw [List.length_take] at hj
  refine ⟨k, j, l[k], _, by omega, List.getElem?_eq_getElem hk, ?_, he⟩
  rw [List.getElem_take]
  exact List.getElem?_eq_getElem (by omega)
/-- How many names a table holds. -/
theorem size_LD (l : List Sy) : Maps.size (LD l) ≤ l.length ∧ (¬ Dup l → Maps.size (LD l) = l.length) ∧ (Dup l → Maps.size (LD l) < l.length) := by
  have key : ∀ (k : Nat), k ≤ l.length → Maps.size (LD (l.take k)) ≤ k ∧ (¬ Dup l → Maps.size (LD (l.take k)) = k) ∧ ((∃ (i j : Nat) (s t : Sy), i < k ∧ j < i ∧ l[i]? = some s ∧ l[j]? = some t ∧ (t.nm.toList == s.nm.toList) = true) → Maps.size (LD (l.take k)) < k) := fun k => by
    induction k with
    | zero => intro _; exact ⟨Nat.le_refl _, fun _ => rfl, fun ⟨i, j, s, t, h, _⟩ => by omega⟩
    | succ k ih =>
      intro hk
      have hl : k < l.length := by omega
      obtain ⟨h1, h2, h3⟩ := ih (by omega)
      rw [List.take_succ_eq_append_getElem hl, size_snoc]
      cases hany : (l.take k).any (fun t => t.nm.toList == l[k].nm.toList)
      · rw [if_neg (by decide)]
        refine ⟨by omega, fun hd => by rw [h2 hd], fun ⟨i, j, s, t, hi, hj, hs, ht, he⟩ => ?_⟩
        rcases Nat.lt_or_ge i k with hik | hik
        · have := h3 ⟨i, j, s, t, hik, hj, hs, ht, he⟩
          omega
        · obtain rfl : i = k := by omega
          rw [List.any_eq_false] at hany
          obtain ⟨hjl, rfl⟩ := List.getElem?_eq_some_iff.1 ht
          obtain ⟨_, rfl⟩ := List.getElem?_eq_some_iff.1 hs
          exact absurd he (hany _ (List.mem_take_iff_getElem.2 ⟨j, by omega, rfl⟩))
      · rw [if_pos rfl]
        exact ⟨by omega, fun hd => absurd (take_dup l k hl hany) hd, fun _ => by omega⟩
  have := key l.length (Nat.le_refl _)
  rw [List.take_length] at this
  refine ⟨this.1, this.2.1, fun ⟨i, j, s, t, h1, h2, h3, h4⟩ => this.2.2 ⟨i, j, s, t, (List.getElem?_eq_some_iff.1 h2).1, h1, h2, h3, h4⟩⟩
/-- What a table of names that are all different tells. -/
theorem at_LD (l : List Sy) (hd : ¬ Dup l) (n : ByteArray) (z : DataW Value) : (LD l).atKey (kyS n) z = match findS l n with | some s => .held s.val | none => z := by
  have key : ∀ (k : Nat), k ≤ l.length → (LD (l.take k)).atKey (kyS n) z = match findS (l.take k) n with | some s => .held s.val | none => z := fun k => by
    induction k with
    | zero => intro _; rfl
    | succ k ih =>
      intro hk
      have hl : k < l.length := by omega
      have ih := ih (by omega)
      rw [List.take_succ_eq_append_getElem hl, LD_snoc]
      unfold findS at ih ⊢
      rw [List.find?_append]
      cases he : (l[k].nm.toList == n.toList)
      · have hne : kyS n ≠ kyS l[k].nm := fun e => by
          rw [kyS_inj e] at he
          simp at he
        rw [atKey_put_other hne, ih, List.find?_cons, he]
        cases (l.take k).find? (fun s => s.nm.toList == n.toList) <;> rfl
      · rw [← kyS_eq he, atKey_put_same (tidy_LD _).isMap (kyS_key _)]
        have hnone : (l.take k).find? (fun s => s.nm.toList == n.toList) = none := by
          rw [List.find?_eq_none]
          intro t ht hte
          refine hd (take_dup l k hl ?_)
          rw [List.any_eq_true]
          refine ⟨t, ht, ?_⟩
          rw [eq_of_beq hte, eq_of_beq he]
          simp
        rw [hnone, List.find?_cons, he]
        rfl
  have := key l.length (Nat.le_refl _)
  rwa [List.take_length] at this
end Go.Proofs.Ytmcmlglacblkiaa
