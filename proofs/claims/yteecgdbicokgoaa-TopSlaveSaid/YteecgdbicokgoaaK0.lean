/- Parts of a key, of a write: their commands. -/
import Derived.Test.YteecgdbicokgoaaF0
import Derived.Test.YteecgdbicokgoaaP4
namespace Go.Proofs.Yteecgdbicokgoaa
open Go.RowKit Go.Shelf
set_option linter.unusedVariables false
set_option linter.unusedSimpArgs false
set_option maxRecDepth 100000
theorem outD_pix (TL : Int → Int → Int) (b : List Int) (n : Nat) : ∀ k, (∀ j, j < k → 6 * j < n) → outD TL b n (pixL 6 n k) = (((n - min (6 * k) n : Nat) : Int), (List.range k).map fun j => (IntKind.u8.wrap (TL ((min 6 (n - 6 * j) : Nat) : Int) ((n - 6 * j : Nat) : Int)), pixB b j))
  | 0, _ => by simp [pixL, outD]
  | k + 1, h => by
    have hk := h k (by omega)
    rw [pixL_succ hk, outD_snoc, outD_pix TL b n k fun j hj => h j (by omega), List.range_succ, List.map_append]
    have e1 : n - min (6 * k) n = n - 6 * k := by omega
    unfold outS pixN
    rw [e1]
    simp only [List.map_cons, List.map_nil, Prod.mk.injEq, and_true]
    omega
theorem parN_lt {n k : Nat} : k < parN 6 n ↔ 6 * k < n := by unfold parN; omega
theorem allD_eq (TL : Int → Int → Int) (b : List Int) : allD TL b = (List.range (parN 6 b.length)).map fun j => (IntKind.u8.wrap (TL ((min 6 (b.length - 6 * j) : Nat) : Int) ((b.length - 6 * j : Nat) : Int)), pixB b j) := by
  unfold allD
  rw [outD_pix TL b b.length _ fun j hj => parN_lt.1 hj]
theorem kb_at {TL : Int → Int → Int} {b : List Int} {cl : List Kb} (h : cl.map (fun x => (x.1.a0, x.2)) = allD TL b) {k : Nat} {y : Kb} (hy : cl[k]? = some y) : 6 * k < b.length ∧ y.1.a0 = IntKind.u8.wrap (TL ((min 6 (b.length - 6 * k) : Nat) : Int) ((b.length - 6 * k : Nat) : Int)) ∧ y.2 = pixB b k := by
  have h1 : (cl.map (fun x => (x.1.a0, x.2)))[k]? = some (y.1.a0, y.2) := by rw [List.getElem?_map, hy]; rfl
  rw [h, allD_eq, List.getElem?_map] at h1
  rcases hr : (List.range (parN 6 b.length))[k]? with _ | j
  · rw [hr] at h1; cases h1
  · rw [hr] at h1
    have hj := List.getElem?_eq_some_iff.1 hr
    obtain ⟨hlt, hj⟩ := hj
    rw [List.getElem_range] at hj
    subst hj
    rw [List.length_range] at hlt
    simp only [Option.map_some, Option.some.injEq, Prod.mk.injEq] at h1
    exact ⟨parN_lt.1 hlt, h1.1.symm, h1.2.symm⟩
theorem kb_len {TL : Int → Int → Int} {b : List Int} {cl : List Kb} (h : cl.map (fun x => (x.1.a0, x.2)) = allD TL b) : cl.length = parN 6 b.length := by
  have := congrArg List.length h
  rw [allD_eq] at this
  simpa using this
theorem kcells_cm : ∀ cl : List Kb, kcells cl = cmcells (cl.map Prod.fst)
  | [] => rfl
  | x :: cl => by
    have := kcells_cm cl
    unfold kcells cmcells at this ⊢
    rw [List.map_cons, flatC, flatC, this]
theorem pixB_len {b : List Int} {i : Nat} : (pixB b i).length = min 6 (b.length - 6 * i) := by unfold pixB; simp
theorem pixB_by {b : List Int} (h : by8 b) (i : Nat) : by8 (pixB b i) := fun z hz => h z (List.mem_of_mem_drop (List.mem_of_mem_take hz))
theorem take_pix {b : List Int} {i : Nat} : b.take (6 * i) ++ pixB b i = b.take (6 * (i + 1)) := by
  unfold pixB
  rw [Nat.mul_succ, List.take_add]
theorem kb_cm {w : World} {base : Nat} {k : Int} {y : Kb} (h : KbAt w base k y) {a0 : Int} (ha : y.1.a0 = a0) : y.1 = ⟨k, a0, 0, 0, 0, 0, 0, y.1.bA, y.1.bn, y.1.bc⟩ := by
  have := h.e
  rw [ha] at this
  exact this
theorem own_cap {w : World} {base : Nat} {e : TypeId} {size n c : Nat} {A : Option Addr} {xs : List Value} (h : Own w base e size A n c xs) : n ≤ c ∧ c ≤ maxLen := ⟨h.2.1, h.2.2.1⟩
theorem cm_at {cl : List Kb} {i : Nat} {c : Cm} (h : (cl.map Prod.fst)[i]? = some c) : ∃ y, cl[i]? = some y ∧ y.1 = c := by
  rw [List.getElem?_map] at h
  rcases hr : cl[i]? with _ | y
  · rw [hr] at h; cases h
  · rw [hr] at h
    exact ⟨y, rfl, by simpa using h⟩
end Go.Proofs.Yteecgdbicokgoaa
