/- make of a row of structs. -/
import Derived.Test.YteecgdbicokgoaaKit
import Derived.Deep.OwnRows
namespace Go.Proofs.Yteecgdbicokgoaa
open Go.RowKit
set_option linter.unusedVariables false
set_option linter.unusedSimpArgs false
theorem flat_get {zs : List Value} {k : Nat} (hk : zs.length = k) (h0 : 0 < k) : ∀ (n i : Nat), ((List.replicate n zs).flatten)[i]? = if i < n * k then zs[i % k]? else none
  | 0, i => by simp
  | n + 1, i => by
    rw [List.replicate_succ, List.flatten_cons]
    rcases Nat.lt_or_ge i k with hi | hi
    · rw [List.getElem?_append_left (by omega), Nat.mod_eq_of_lt hi, if_pos (by rw [Nat.succ_mul]; omega)]
    · rw [List.getElem?_append_right (by omega), hk, flat_get hk h0 n (i - k)]
      have e : (i - k) % k = i % k := by rw [← Nat.add_mod_right (i - k) k, Nat.sub_add_cancel hi]
      rw [e]
      by_cases h : i - k < n * k
      · rw [if_pos h, if_pos (by rw [Nat.succ_mul]; omega)]
      · rw [if_neg h, if_neg (by rw [Nat.succ_mul]; omega)]
theorem made_flat (z : Array Value) (k n : Nat) (hk : z.size = k) (h0 : 0 < k) : (madeCells z (n * k)).toList = (List.replicate n z.toList).flatten := by
  apply List.ext_getElem?
  intro i
  rw [flat_get (zs := z.toList) (k := k) (by simpa using hk) h0 n i]
  unfold madeCells
  by_cases h : i < n * k
  · rw [if_pos h]
    have hm : i % k < z.size := by rw [hk]; exact Nat.mod_lt _ h0
    simp [h, hk]
    rw [getElem!_pos z _ hm, Array.getElem?_eq_getElem hm]
  · rw [if_neg h]
    simp [h]
section
variable {P : Program} {w : World} {ops : Array Oper} {rest : List Oper} {o : Oper} {a : Act} {Q : Exit → Act → World → Prop}
theorem wp_mk {K : Act → World → Prop} (l c : Operand) (t : TypeId) (hop : o.op = Op.makeSlice t l c)
    (e : TypeId) (z : Value) (size bytes : Nat) (ht : P.underlying t = some (.slice e)) (hinfo : (P.info? e).map (fun i => (i.zero, i.size, i.bytes)) = some (some z, size, bytes)) (hzs : z.cells.size = size) (hsz : 0 < size)
    (kl kc : IntKind) (n : Nat) (hl : a.eval l = .int kl (n : Int)) (hc : a.eval c = .int kc (n : Int)) (hbytes : bytes * n ≤ 281474976710656) (h63 : n ≤ 1000000000)
    (h : ∀ w', Own w' w.heap.size e size (some ⟨w.heap.size, 0, none⟩) n n ((List.replicate n z.cells.toList).flatten) → Below w.heap.size w w' → K (a.put o.dst (.slice (some ⟨w.heap.size, 0, none⟩) n n)) w') : o.wp P a w K Q := by
  obtain ⟨i, hi, hz, hsize, hby⟩ := info_parts hinfo
  have hb' : (i.bytes : Int) * (n : Int) ≤ 281474976710656 := by
    have h : ((i.bytes * n : Nat) : Int) ≤ 281474976710656 := by rw [hby]; omega
    rwa [Int.natCast_mul] at h
  have hr := run_make (P := P) w t e i z ht hi hz kl kc n n (by omega) (Int.le_refl _) hb' (by omega)
  simp only [Int.toNat_natCast, hsize] at hr
  unfold Oper.wp
  simp only [execOp, hop, hl, hc, Sem.run_bind, hr, Result.andThen_ok, Sem.run_pure]
  have ho := Own.made (e := e) (size := size) w (Nat.le_refl _) (madeCells z.cells (n * size)) n n (Nat.le_refl _) (by unfold maxLen; omega) (size_madeCells _ _)
  rw [made_flat z.cells size n hzs hsz, List.take_of_length_le (by
    rw [List.length_flatten, List.map_replicate, List.sum_replicate_nat, Array.length_toList, hzs]
    exact Nat.le_refl _)] at ho
  exact h _ ho ((Below.refl _ _).alloc (Nat.le_refl _) _)
theorem wpList_mk (hg : o.guard = none) (l c : Operand) (t : TypeId) (hop : o.op = Op.makeSlice t l c)
    (e : TypeId) (z : Value) (size bytes : Nat) (ht : P.underlying t = some (.slice e)) (hinfo : (P.info? e).map (fun i => (i.zero, i.size, i.bytes)) = some (some z, size, bytes)) (hzs : z.cells.size = size) (hsz : 0 < size)
    (kl kc : IntKind) (n : Nat) (hl : a.eval l = .int kl (n : Int)) (hc : a.eval c = .int kc (n : Int)) (hbytes : bytes * n ≤ 281474976710656) (h63 : n ≤ 1000000000)
    (h : ∀ w', Own w' w.heap.size e size (some ⟨w.heap.size, 0, none⟩) n n ((List.replicate n z.cells.toList).flatten) → Below w.heap.size w w' → wpList P ops Q rest (a.put o.dst (.slice (some ⟨w.heap.size, 0, none⟩) n n)) w') : wpList P ops Q (o :: rest) a w :=
  wpList_plain hg fun _ hK => wp_mk l c t hop e z size bytes ht hinfo hzs hsz kl kc n hl hc hbytes h63 fun w' h2 h3 => hK _ _ (h w' h2 h3)
end
end Go.Proofs.Yteecgdbicokgoaa
