/- copy, and rows stretched. -/
import Derived.Test.YteecgdbicokgoaaSto
import Derived.Lib.AppendZerosOnto
import Derived.Lib.Overlaps
namespace Go.Proofs.Yteecgdbicokgoaa
open Go.RowKit
set_option linter.unusedVariables false
set_option linter.unusedSimpArgs false
section
variable {P : Program} {w w' : World} {base : Nat} {e : TypeId} {size : Nat} {A : Option Addr} {n c : Nat} {xs : List Value}
theorem Own.takeN (h : Own w base e size A n c xs) (k : Nat) (hk : k ≤ n) : Own w base e size A k c (xs.take (k * size)) := by
  obtain ⟨h1, h2, h3, h4, h5⟩ := h
  have hm : k * size ≤ n * size := Nat.mul_le_mul_right _ hk
  refine ⟨by rw [List.length_take, h1]; omega, by omega, h3, h4, fun a ha => ?_⟩
  obtain ⟨g, off, cur, rfl, hb, hh, hfit, htake⟩ := h5 a ha
  exact ⟨g, off, cur, rfl, hb, hh, hfit, by rw [← htake, List.take_take]; congr 1; omega⟩
/-- As many more as there is room for. -/
theorem Own.stretch {g off : Nat} (h : Own w base e size (some ⟨g, off, none⟩) n c xs) (k : Nat) (hk : k ≤ c) (hn : n ≤ k) : ∃ ys, Own w base e size (some ⟨g, off, none⟩) k c (xs ++ ys) := by
  obtain ⟨h1, h2, h3, h4, h5⟩ := h
  obtain ⟨g', off', cur, ha, hb, hh, hfit, htake⟩ := h5 _ rfl
  simp only [Addr.mk.injEq, and_true] at ha
  obtain ⟨rfl, rfl⟩ := ha
  have hm : n * size ≤ k * size := Nat.mul_le_mul_right _ hn
  have hm2 : k * size ≤ c * size := Nat.mul_le_mul_right _ hk
  refine ⟨((cur.toList.drop off).take (k * size)).drop (n * size), ?_, hk, h3, h4, fun a ha => ?_⟩
  · rw [← htake]
    simp only [List.length_append, List.length_drop, List.length_take, Array.length_toList]
    omega
  · injection ha with ha
    subst ha
    refine ⟨g, off, cur, rfl, hb, hh, hfit, ?_⟩
    rw [← htake]
    conv => lhs; rw [← List.take_append_drop (n * size) ((cur.toList.drop off).take (k * size))]
    rw [List.take_take, Nat.min_eq_left hm]
theorem wpList_z {ops : Array Oper} {rest : List Oper} {o : Oper} {a : Act} {Q : Exit → Act → World → Prop} (hgd : o.guard = none) (s x : Operand) (t tn : TypeId)
    (ho : o.op = .call { callee := .builtin .append, args := #[s, x], argTypes := #[t, tn] }) (z : Value) (bytes : Nat) (ht : P.underlying t = some (.slice e)) (htn : P.underlying tn = some (.int .i64))
    (hinfo : (P.info? e).map (fun i => (i.zero, i.size, i.bytes)) = some (some z, size, bytes)) (hzs : z.cells.size = size) (hsz : 0 < size)
    (k : Nat) (hs : a.eval s = .slice A k c) (hown : Own w base e size A k c xs) (m : Nat) (hx : a.eval x = .int .i64 (m : Int)) (h0 : 0 < m) (hroom : c < k + m) (h63 : k + m ≤ maxLen) (hb : (k + m) * bytes ≤ 140737488355328)
    (h : ∀ c' w' zs, zs.length = m * size → Own w' w.heap.size e size (some ⟨w.heap.size, 0, none⟩) (k + m) c' (xs ++ zs) → Below w.heap.size w w' → wpList P ops Q rest (a.put o.dst (.slice (some ⟨w.heap.size, 0, none⟩) (k + m) c')) w') : wpList P ops Q (o :: rest) a w := by
  obtain ⟨i, hi, hz, hsize, hby⟩ := info_parts hinfo
  subst hsize
  subst hby
  obtain ⟨o1, o2, o3, o4, o5⟩ := id hown
  have hsmall : k + m ≤ 9223372036854775807 := by simp only [maxLen] at h63; omega
  have hadd : ∀ (b o j : Nat), (⟨b, o, none⟩ : Addr).add j = ⟨b, o + j, none⟩ := fun b o j => by unfold Addr.add; split <;> simp_all
  have hold : (Builtin.firstCells i.size k (.slice A k c)).run P w.drew = .ok xs.toArray w.drew := by
    cases A with
    | none =>
      have hc0 := o4 rfl
      obtain rfl : k = 0 := by omega
      obtain rfl : xs = [] := List.eq_nil_of_length_eq_zero (by simpa using o1)
      exact run_firstCells_none w.drew i.size 0 0 c
    | some a =>
      obtain ⟨g, off, cur, rfl, -⟩ := o5 a rfl
      exact run_firstCells_some w.drew i.size k ⟨g, off, none⟩ k c xs o1 fun j v hv => by rw [hadd]; exact hown.cells j v hv
  have hmb : m * i.bytes ≤ (k + m) * i.bytes := Nat.mul_le_mul_right _ (by omega)
  have hr := fun ty => Lib.run_append_grow_zeros (P := P) w t tn ty e i z .i64 .i64 ht htn hi hz A k c xs hold m h0 hsz hroom (by omega) (by omega) (growslice_fits hroom hb)
  refine Lib.wpList_append_run w hgd s x t tn ho _ _ hs hx _ _ (hr _) (h _ _ (Builtin.zeroCells z.cells m).toList ?_ ?_ ?_)
  · rw [Array.length_toList, size_zeroCells, hzs]
  · have hge := grownCap_ge w (k + m) c e
    have hcm : grownCap w (k + m) c e ≤ maxLen := grownCap_le_maxLen w (k + m) c e h63
    have hlen : (xs ++ (Builtin.zeroCells z.cells m).toList).length = (k + m) * i.size := by
      rw [List.length_append, o1, Array.length_toList, size_zeroCells, hzs, Nat.add_mul]
    refine ⟨hlen, hge, hcm, fun h => (by cases h), fun a ha => ?_⟩
    injection ha with ha
    subst ha
    refine ⟨w.heap.size, 0, _, rfl, Nat.le_refl _, heap_alloc_new w.drew _, ?_, ?_⟩
    · simp only [Array.size_append, List.size_toArray, size_zeroCells, hzs, o1, ← Nat.add_mul, Nat.zero_add]
      refine Nat.le_of_eq ?_
      congr 1
      omega
    · simp only [Array.toList_append, List.append_assoc, List.drop_zero]
      rw [← List.append_assoc, ← hlen]
      exact List.take_left
  · exact ((Below.refl _ _).drew).alloc (Nat.le_refl _) _
theorem run_copyN (w : World) (dT sT ty elem : TypeId) (g o dLen dCap : Nat) (a : Addr) (sLen sCap : Nat) (cur : Array Value) (t : TypeId) (cs : List Value) (size m : Nat)
    (hu : P.underlying dT = some (.slice elem)) (hs : (P.info? elem).map (·.size) = some size) (hm : Nat.min sLen dLen = m)
    (hg : w.heap[g]? = some (.cells cur t (0, 0))) (hn : cs.length = m * size)
    (hsrc : ∀ j v, cs[j]? = some v → w.cell? (a.add j) = some v) (hfit : o + cs.length ≤ cur.size) (h1 : ∀ v ∈ cs, v.oneCell' = true) :
    (Builtin.copy_ #[dT, sT] ty #[.slice (some ⟨g, o, none⟩) dLen dCap, .slice (some a) sLen sCap]).run P w =
      .ok (goInt m) (w.setRow g (cur.toList.take o ++ cs ++ cur.toList.drop (o + cs.length)).toArray) := by
  have hf := run_firstCells_some (P := P) w size m a sLen sCap cs hn hsrc
  have hst := run_storeCells_at P g o t cs 0 cur w hg (by simpa using hfit) h1
  simp only [Nat.add_zero] at hst
  cases hq : P.info? elem with
  | none => simp [hq] at hs
  | some i =>
    have hi : i.size = size := by simpa [hq] using hs
    simp [Builtin.copy_, run_underlying hu, Builtin.lenOf, sizeOf, typeInfo, hq, hi, hm, hf, hst]
/-- Cells copied over a row of the call's own, from its element j on. -/
theorem own_copy {g off : Nat} (hown : Own w base e size (some ⟨g, off, none⟩) n c xs) (dT sT ty : TypeId) (hu : P.underlying dT = some (.slice e)) (hs : (P.info? e).map (·.size) = some size) (j m dLen dCap : Nat) (hj : j + m ≤ n) (b o sLen sCap : Nat) (hm : Nat.min sLen dLen = m) (news : List Value) (hn : news.length = m * size)
    (hsrc : ∀ i v, news[i]? = some v → w.cell? ⟨b, o + i, none⟩ = some v) (h1 : ∀ v ∈ news, v.oneCell' = true) :
    ∃ w', (Builtin.copy_ #[dT, sT] ty #[.slice (some ⟨g, off + j * size, none⟩) dLen dCap, .slice (some ⟨b, o, none⟩) sLen sCap]).run P w = .ok (goInt m) w' ∧ Own w' base e size (some ⟨g, off, none⟩) n c (xs.take (j * size) ++ news ++ xs.drop ((j + m) * size)) ∧ Chg (fun i => i = g) w w' := by
  obtain ⟨h1', h2, h3, h4, h5⟩ := hown
  obtain ⟨g', off', cur, ha, hb, hh, hfit, htake⟩ := h5 _ rfl
  simp only [Addr.mk.injEq, and_true] at ha
  obtain ⟨rfl, rfl⟩ := ha
  have hadd : ∀ (b o j : Nat), (⟨b, o, none⟩ : Addr).add j = ⟨b, o + j, none⟩ := fun b o j => by unfold Addr.add; split <;> simp_all
  have hjm : (j + m) * size ≤ n * size := Nat.mul_le_mul_right _ hj
  have hnc : n * size ≤ c * size := Nat.mul_le_mul_right _ h2
  rw [Nat.add_mul] at hjm
  have hr := run_copyN (P := P) w dT sT ty e g (off + j * size) dLen dCap ⟨b, o, none⟩ sLen sCap cur e news size m hu hs hm hh hn (fun i v hv => by rw [hadd]; exact hsrc i v hv) (by rw [hn]; omega) h1
  refine ⟨_, hr, ⟨?_, h2, h3, h4, fun a ha => ?_⟩, ⟨rfl, rfl, rfl, by simp, fun k _ hk => setRow_other w g k _ (fun e => hk e)⟩⟩
  · simp only [List.length_append, List.length_take, List.length_drop, h1', hn, Nat.add_mul]
    omega
  · injection ha with ha
    subst ha
    refine ⟨g, off, _, rfl, hb, setRow_heap w g cur _ e _ hh, ?_, ?_⟩
    · simp only [List.size_toArray, List.length_append, List.length_take, List.length_drop, Array.length_toList, hn]
      omega
    · have hcl : cur.toList.length = cur.size := Array.length_toList
      rw [← htake]
      apply List.ext_getElem?
      intro i
      simp only [List.getElem?_take, List.getElem?_drop, List.getElem?_append, List.length_append, List.length_take, List.length_drop, hcl, hn, Nat.add_mul]
      by_cases c1 : i < j * size
      · have e1 : off + i < min (off + j * size) cur.size := by omega
        have e2 : off + i < min (off + j * size) cur.size + m * size := by omega
        have e3 : i < min (j * size) (min (n * size) (cur.size - off)) + m * size := by omega
        have e4 : i < min (j * size) (min (n * size) (cur.size - off)) := by omega
        have e5 : i < n * size := by omega
        have e6 : off + i < off + j * size := by omega
        simp [c1, e1, e2, e3, e4, e5, e6]
      · by_cases c2 : i < j * size + m * size
        · have e1 : ¬ off + i < min (off + j * size) cur.size := by omega
          have e2 : off + i < min (off + j * size) cur.size + m * size := by omega
          have e3 : i < min (j * size) (min (n * size) (cur.size - off)) + m * size := by omega
          have e4 : ¬ i < min (j * size) (min (n * size) (cur.size - off)) := by omega
          have e5 : i < n * size := by omega
          simp only [e1, e2, e3, e4, e5, if_true, if_false]
          congr 1
          omega
        · have e1 : ¬ off + i < min (off + j * size) cur.size := by omega
          have e2 : ¬ off + i < min (off + j * size) cur.size + m * size := by omega
          have e3 : ¬ i < min (j * size) (min (n * size) (cur.size - off)) + m * size := by omega
          by_cases e5 : i < n * size
          · have e6 : j * size + m * size + (i - (min (j * size) (min (n * size) (cur.size - off)) + m * size)) < n * size := by omega
            simp only [e1, e2, e3, e5, e6, if_true, if_false]
            congr 1
            omega
          · have e6 : ¬ j * size + m * size + (i - (min (j * size) (min (n * size) (cur.size - off)) + m * size)) < n * size := by omega
            simp only [e2, e3, e5, e6, if_false]
end
theorem wpList_cp {P : Program} (w : World) {ops : Array Oper} {rest : List Oper} {o : Oper} {a : Act} {Q : Exit → Act → World → Prop} (hgd : o.guard = none) (d s : Operand) (t t' : TypeId)
    (ho : o.op = .call { callee := .builtin .copy, args := #[d, s], argTypes := #[t, t'] }) (v u : Value) (hd : a.eval d = v) (hs : a.eval s = u) {v' : Value} {w' : World}
    (hr : (Builtin.copy_ #[t, t'] o.type #[v, u]).run P w = .ok v' w') (h : wpList P ops Q rest (a.put o.dst v') w') : wpList P ops Q (o :: rest) a w :=
  wpList_plain hgd fun _ hK => by
    have hK := hK _ _ h
    unfold Oper.wp execOp
    simp only [ho, resolve, invoke, builtin, Sem.run_bind, Sem.run_pure, Result.andThen_ok, List.map_toArray, List.map_cons, List.map_nil, hd, hs, hr]
    exact hK
theorem step_cp {P : Program} {ops : Array Oper} {o : Oper} {a : Act} {w : World} {K : Act → World → Prop} {Q : Exit → Act → World → Prop} {E : Prop}
    (hg : o.guard = none) (d x : Operand) (dT sT : TypeId) (hop : o.op = Op.call { callee := Callee.builtin Builtin.copy, args := #[d, x], argTypes := #[dT, sT] })
    (v u : Value) (hd : a.eval d = v) (hx : a.eval x = u) {v' : Value} {w' : World} (hr : (Builtin.copy_ #[dT, sT] o.type #[v, u]).run P w = .ok v' w') (hK : K (a.put o.dst v') w') :
    if Region.wanted o (yielded ops a.tmps) = true then Oper.wp P o a w K Q else E := by
  have hw : Region.wanted o (yielded ops a.tmps) = true := by simp [Region.wanted, hg]
  rw [if_pos hw]
  unfold Oper.wp
  simp [execOp, hop, resolve, invoke, builtin, hd, hx, hr, Result.andThen]
  exact hK
end Go.Proofs.Yteecgdbicokgoaa
