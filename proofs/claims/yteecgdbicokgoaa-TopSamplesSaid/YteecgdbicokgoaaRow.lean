/- What a row of structs that came in holds: any struct whose cells are told. -/
import Derived.Test.YteecgdbicokgoaaOpen
import Derived.Deep.Slices
import Derived.Deep.Fields
import Derived.ChangeSlices
namespace Go.Proofs.Yteecgdbicokgoaa
open Go.RowKit Go.ChangeShapes Go.WideShapes Go.Deep
set_option linter.unusedVariables false
set_option linter.unusedSimpArgs false
theorem list_of {α : Type} (p : Nat → α → Prop) : ∀ n : Nat, (∀ i, i < n → ∃ a, p i a) → ∃ l : List α, l.length = n ∧ ∀ i a, l[i]? = some a → p i a
  | 0, _ => ⟨[], rfl, fun i a h => by simp at h⟩
  | n + 1, h => by
    obtain ⟨l, hl, hp⟩ := list_of p n fun i hi => h i (by omega)
    obtain ⟨a, ha⟩ := h n (by omega)
    refine ⟨l ++ [a], by simp [hl], fun i b hb => ?_⟩
    rcases Nat.lt_or_ge i n with hi | hi
    · rw [List.getElem?_append_left (by omega)] at hb
      exact hp i b hb
    · rw [List.getElem?_append_right (by omega)] at hb
      obtain ⟨h0, hb⟩ := List.getElem?_eq_some_iff.1 hb
      simp at h0
      obtain rfl : i = n := by omega
      simp at hb
      subst hb
      exact ha
/-- All cells of a row. -/
def flatC {α : Type} (C : α → List Value) : List α → List Value
  | [] => []
  | t :: l => C t ++ flatC C l
theorem flatC_get {α : Type} (C : α → List Value) (K : Nat) (hK : 0 < K) : ∀ (l : List α) (_ : ∀ t ∈ l, (C t).length = K) (i : Nat) (u : Value), (flatC C l)[i]? = some u → ∃ t, l[i / K]? = some t ∧ (C t)[i % K]? = some u
  | [], _, i, u, h => by simp [flatC] at h
  | t :: l, hl, i, u, h => by
    have ht : (C t).length = K := hl t (by simp)
    rw [flatC] at h
    rcases Nat.lt_or_ge i K with hi | hi
    · rw [List.getElem?_append_left (by omega)] at h
      refine ⟨t, by rw [Nat.div_eq_of_lt hi]; rfl, by rw [Nat.mod_eq_of_lt hi]; exact h⟩
    · rw [List.getElem?_append_right (by omega), ht] at h
      obtain ⟨t', h1, h2⟩ := flatC_get C K hK l (fun t ht => hl t (by simp [ht])) (i - K) u h
      refine ⟨t', ?_, ?_⟩
      · rw [show i / K = (i - K) / K + 1 by rw [← Nat.add_div_right _ hK, Nat.sub_add_cancel hi]]
        exact h1
      · rw [show i % K = (i - K) % K by rw [← Nat.add_mod_right (i - K) K, Nat.sub_add_cancel hi]]
        exact h2
theorem flatC_len {α : Type} (C : α → List Value) (K : Nat) : ∀ (l : List α) (_ : ∀ t ∈ l, (C t).length = K), (flatC C l).length = l.length * K
  | [], _ => by simp [flatC]
  | t :: l, h => by
    rw [flatC, List.length_append, flatC_len C K l (fun u hu => h u (by simp [hu])), h t (by simp), List.length_cons, Nat.succ_mul, Nat.add_comm]
theorem flatC_app {α : Type} (C : α → List Value) : ∀ l m : List α, flatC C (l ++ m) = flatC C l ++ flatC C m
  | [], m => rfl
  | t :: l, m => by simp only [List.cons_append, flatC, flatC_app C l m, List.append_assoc]
theorem flatC_at {α : Type} (C : α → List Value) (K : Nat) : ∀ (l : List α) (_ : ∀ t ∈ l, (C t).length = K) (k : Nat) (t : α), l[k]? = some t → ∀ j u, (C t)[j]? = some u → (flatC C l)[k * K + j]? = some u
  | [], _, k, t, h, j, u, hu => by simp at h
  | t0 :: l, hl, 0, t, h, j, u, hu => by
    simp at h
    subst h
    rw [flatC, Nat.zero_mul, Nat.zero_add, List.getElem?_append_left (List.getElem?_eq_some_iff.1 hu).1]
    exact hu
  | t0 :: l, hl, k + 1, t, h, j, u, hu => by
    have h0 := hl t0 (by simp)
    rw [flatC, List.getElem?_append_right (by rw [h0, Nat.succ_mul]; omega), h0, show (k + 1) * K + j - K = k * K + j by rw [Nat.succ_mul]; omega]
    exact flatC_at C K l (fun t ht => hl t (by simp [ht])) k t (by simpa using h) j u hu
theorem flatC_drop {α : Type} (C : α → List Value) (K : Nat) : ∀ (k : Nat) (l : List α) (_ : ∀ t ∈ l, (C t).length = K), flatC C (l.drop k) = (flatC C l).drop (k * K)
  | 0, l, _ => by simp
  | k + 1, [], _ => by simp [flatC]
  | k + 1, t :: l, h => by
    rw [List.drop_succ_cons, flatC_drop C K k l (fun u hu => h u (by simp [hu])), flatC, show (k + 1) * K = (C t).length + k * K by rw [h t (by simp), Nat.succ_mul, Nat.add_comm], ← List.drop_drop, List.drop_left]
theorem flatC_take {α : Type} (C : α → List Value) (K : Nat) : ∀ (k : Nat) (l : List α) (_ : ∀ t ∈ l, (C t).length = K), flatC C (l.take k) = (flatC C l).take (k * K)
  | 0, l, _ => by simp [flatC]
  | k + 1, [], _ => by simp [flatC]
  | k + 1, t :: l, h => by
    rw [List.take_succ_cons, flatC, flatC_take C K k l (fun u hu => h u (by simp [hu])), flatC, show (k + 1) * K = (C t).length + k * K by rw [h t (by simp), Nat.succ_mul, Nat.add_comm], List.take_length_add_append]
section
variable {H : Type} {enc : TypeId × Value → H} {P : Program} {w : World} {base : Nat} {spare : Nat → Bool} {held : Bool}
theorem rowN {α : Type} (C : α → List Value) (G : α → Prop) {t e : TypeId} (K : Nat) (hK : 0 < K) {fuel : Nat} {cs : List Value} {x : DataW H × List MemPlace} (ht : P.underlying t = some (.slice e)) (hC : P.cellsOf e = K)
    (hel : ∀ (m : Nat) (cs : List Value) (y : DataW H × List MemPlace), DataW.trod enc P w base spare held m e cs = some y → ∃ a : α, cs = C a ∧ G a)
    (hlen : ∀ a, (C a).length = K) (h : DataW.trod enc P w base spare held fuel t cs = some x) :
    ∃ (A : Option Addr) (n c : Nat) (l : List α), cs = [.slice A n c] ∧ n ≤ c ∧ c ≤ maxLen ∧ (A = none → n = 0 ∧ c = 0) ∧ l.length = n ∧ (∀ t ∈ l, G t) ∧ Rd w w.heap.size A (flatC C l) := by
  rcases open_slice ht h with ⟨hcs, _⟩ | ⟨a, len, cap, m, n, D, Pl, hcs, hb, hl, hm, hmm, hx, hi⟩
  · exact ⟨none, 0, 0, [], hcs, Nat.le_refl _, Nat.zero_le _, fun _ => ⟨rfl, rfl⟩, rfl, fun t h => (by cases h), fun h => absurd rfl h⟩
  · have hlm : len ≤ m := by rw [hmm]; split <;> omega
    rw [hC] at hi
    obtain ⟨l, hll, hp⟩ := list_of (fun i (t : α) => G t ∧ ∀ j u, (C t)[j]? = some u → w.cell? (a.add (i * K + j)) = some u) len fun i hlt => by
      obtain ⟨cs', hc, hd⟩ := hi i (by omega)
      obtain ⟨_, hcl, hat⟩ := World.cells?_some hc
      obtain ⟨t, rfl, hG⟩ := hel _ _ _ hd
      refine ⟨t, hG, fun j u hu => ?_⟩
      rw [← Go.Deep.add_add]
      have hj := (List.getElem?_eq_some_iff.1 hu).1
      rw [hat j (by rw [← hlen t]; exact hj), ← hu, List.getElem?_eq_getElem hj]
    refine ⟨some a, len, cap, l, hcs, hl, hm, fun h => (by cases h), hll, fun t ht => ?_, fun hn => ?_⟩
    · obtain ⟨i, hi⟩ := List.getElem?_of_mem ht
      exact (hp i t hi).1
    · obtain ⟨t0, ht0⟩ : ∃ t, l[0]? = some t := by
        cases l with
        | nil => exact absurd rfl hn
        | cons t l => exact ⟨t, rfl⟩
      obtain ⟨u0, hu0⟩ : ∃ u, (C t0)[0]? = some u := ⟨_, List.getElem?_eq_getElem (by rw [hlen]; exact hK)⟩
      have h0 := (hp 0 t0 ht0).2 0 u0 hu0
      rw [Nat.zero_mul, Nat.add_zero] at h0
      obtain ⟨b, o, s⟩ := a
      obtain rfl : s = none := by simpa [Addr.add] using World.cell?_spot h0
      refine ⟨b, o, rfl, World.block_lt_of_cell? _ ⟨b, o, none⟩ (by simpa [Addr.add] using h0), fun i u hu => ?_⟩
      obtain ⟨t, h1, h2⟩ := flatC_get C K hK l (fun t _ => hlen t) i u hu
      have q := (hp _ t h1).2 _ _ h2
      rw [add_none] at q
      rw [show o + i = o + (i / K * K + i % K) by rw [Nat.div_add_mod']]
      exact q
/-- A row of numbers that came in. -/
theorem row_ints {k : IntKind} {t e : TypeId} {fuel : Nat} {cs : List Value} {x : DataW H × List MemPlace} (ht : P.underlying t = some (.slice e)) (he : P.underlying e = some (.int k)) (hC : P.cellsOf e = 1)
    (h : DataW.trod enc P w base spare held fuel t cs = some x) :
    ∃ (A : Option Addr) (n c : Nat) (b : List Int), cs = [.slice A n c] ∧ n ≤ c ∧ c ≤ maxLen ∧ (A = none → n = 0 ∧ c = 0) ∧ b.length = n ∧ Rd w w.heap.size A (b.map (Value.int k)) ∧ ∀ x ∈ b, (Lit.int k x).wf = true := by
  rcases open_ints ht he hC h with ⟨hcs, _⟩ | ⟨a, len, cap, zs, hcs, hb, hl, hm, hz, _, hcell, hwz⟩
  · exact ⟨none, 0, 0, [], hcs, Nat.le_refl _, Nat.zero_le _, fun _ => ⟨rfl, rfl⟩, rfl, Rd.nil, fun x hx => (by cases hx)⟩
  · have hzl : len ≤ zs.length := by rw [hz]; split <;> omega
    refine ⟨some a, len, cap, zs.take len, hcs, hl, hm, fun h => (by cases h), by simp; omega, fun hn => ?_, fun x hx => hwz x (List.mem_of_mem_take hx)⟩
    have hpos : 0 < zs.length := by
      cases zs with
      | nil => simp at hn
      | cons z r => simp
    have h0 := hcell 0 hpos
    obtain ⟨b, o, s⟩ := a
    obtain rfl : s = none := by simpa [Addr.add] using World.cell?_spot h0
    refine ⟨b, o, rfl, World.block_lt_of_cell? _ ⟨b, o, none⟩ (by simpa [Addr.add] using h0), fun i u hu => ?_⟩
    simp only [List.getElem?_map, List.getElem?_take] at hu
    split at hu
    · obtain ⟨z, hzz, rfl⟩ := Option.map_eq_some_iff.1 hu
      have := hcell i (List.getElem?_eq_some_iff.1 hzz).1
      rw [add_none] at this
      rw [this]
      simp [hzz]
    · simp at hu
end
end Go.Proofs.Yteecgdbicokgoaa
