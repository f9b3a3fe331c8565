/- slices.Insert at frames. -/
import Derived.Test.YtbmkfjgodgmjnaaB6
namespace Go.Proofs.Ytbmkfjgodgmjnaa
open Go.RowKit
set_option linter.unusedVariables false
set_option linter.unusedSimpArgs false
/-- A frame put into a row. -/
def InsP (w : World) (B : Nat) (A : Option Addr) (n : Nat) (ys : List Value) (e : Ending) (w' : World) : Prop := ∃ A' c', e = .returned (.slice A' (n + 1) c') ∧ Own w' B 26 11 A' (n + 1) c' ys ∧ Chg (fun g => blkOf A = some g) w w' ∧ ∀ g, blkOf A' = some g → g < w.heap.size → blkOf A = some g
abbrev z26 : Value := .agg #[.int .u32 0, .bool false, .int .i64 0, .int .u8 0, .int .u8 0, .int .u8 0, .int .u8 0, .int .u8 0, .int .u8 0, .int .u8 0, .int .u8 0]
set_option maxHeartbeats 2000000 in
theorem insert_end {w : World} {B n c vb : Nat} {A : Option Addr} {xs vs : List Value} (h : Own w B 26 11 A n c xs) (hB : B ≤ w.heap.size) (hn : n ≤ 2) (hv : Blk w vb 26 vs.toArray) (hl : vs.length = 11) (h1 : ∀ v ∈ vs, v.oneCell' = true) :
    Calls Try.prog 51 #[.slice A n c, .int .i64 n, .slice (some ⟨vb, 0, none⟩) 1 1] w (InsP w B A n (xs ++ vs)) := by
  have hnc := h.2.1
  have hcm := h.2.2.1
  unfold maxLen at hcm
  have hways : (A = none ∧ n = 0 ∧ c = 0) ∨ (∃ g o, A = some ⟨g, o, none⟩) := by
    cases hA : A with
    | none =>
      have := h.2.2.2.1 hA
      exact .inl ⟨rfl, by omega, this⟩
    | some a =>
      obtain ⟨g, off, cur, rfl, -⟩ := h.2.2.2.2 a hA
      exact .inr ⟨g, off, rfl⟩
  have hr := hv.rd
  have hfin : Hid (∀ A' c' w', Own w' B 26 11 A' (n + 1) c' (xs ++ vs) → w.grownBy w' (blkOf A) → (blkOf A' = blkOf A ∨ blkOf A' = some w.heap.size) → InsP w B A n (xs ++ vs) (.returned (.slice A' (n + 1) c')) w') := Lib.hid fun A' c' w' x1 x2 x3 => ⟨A', c', rfl, x1, (Chg.of_grown x2).mono (fun i _ e => e.symm), fun g hg hlt => by
    rcases x3 with e | e
    · rw [← e]; exact hg
    · rw [e] at hg
      simp only [Option.some.injEq] at hg
      omega⟩
  have HV := Lib.hid hv
  clear hv
  rcases hways with ⟨rfl, rfl, rfl⟩ | ⟨g, o, rfl⟩
  · go_enter Try.func51, Try.ntmps51
    go_wp2_with (at_builtin; refine wpList_app _ rfl (.tmp 23) (.tmp 24) 36 rfl B 26 z26 11 24 Try.underlying36 info26 rfl (by decide) none 0 0 xs rfl h _ _ 1 1 vs rfl (by rw [hl]) hr h1 (by unfold maxLen; omega) (by omega) hB ?_; intro A' c' w' ho' hg' hbk')
    go_ret
    exact hfin.out _ _ _ ho' hg' hbk'
  · have hcn : (n : Int) ≤ c := by omega
    by_cases hc : c = n
    · subst hc
      go_enter Try.func51, Try.ntmps51
      go_wp2_with (at_builtin; refine wpList_app _ rfl (.tmp 23) (.tmp 24) 36 rfl B 26 z26 11 24 Try.underlying36 info26 rfl (by decide) _ c c xs rfl h _ _ 1 1 vs rfl (by rw [hl]) hr h1 (by unfold maxLen; omega) (by omega) hB ?_; intro A' c' w' ho' hg' hbk')
      go_ret
      exact hfin.out _ _ _ ho' hg' hbk'
    · go_enter Try.func51, Try.ntmps51
      go_wp2_with (at_builtin; refine wpList_app _ rfl (.tmp 23) (.tmp 24) 36 rfl B 26 z26 11 24 Try.underlying36 info26 rfl (by decide) _ n c xs rfl h _ _ 1 1 vs rfl (by rw [hl]) hr h1 (by unfold maxLen; omega) (by omega) hB ?_; intro A' c' w' ho' hg' hbk')
      go_ret
      exact hfin.out _ _ _ ho' hg' hbk'
theorem wpList_cp (w : World) {ops : Array Oper} {rest : List Oper} {o : Oper} {a : Act} {Q : Exit → Act → World → Prop} (hgd : o.guard = none) (d s : Operand) (t t' : TypeId)
    (ho : o.op = .call { callee := .builtin .copy, args := #[d, s], argTypes := #[t, t'] }) (v u : Value) (hd : a.eval d = v) (hs : a.eval s = u) {v' : Value} {w' : World}
    (hr : (Builtin.copy_ #[t, t'] o.type #[v, u]).run Try.prog w = .ok v' w') (h : wpList Try.prog ops Q rest (a.put o.dst v') w') : wpList Try.prog ops Q (o :: rest) a w :=
  wpList_plain hgd fun _ hK => by
    have hK := hK _ _ h
    unfold Oper.wp execOp
    simp only [ho, resolve, invoke, builtin, Sem.run_bind, Sem.run_pure, Result.andThen_ok, List.map_toArray, List.map_cons, List.map_nil, hd, hs, hr]
    exact hK
theorem step_cp {ops : Array Oper} {o : Oper} {a : Act} {w : World} {K : Act → World → Prop} {Q : Exit → Act → World → Prop} {E : Prop}
    (hg : o.guard = none) (d x : Operand) (dT sT : TypeId) (hop : o.op = Op.call { callee := Callee.builtin Builtin.copy, args := #[d, x], argTypes := #[dT, sT] })
    (v u : Value) (hd : a.eval d = v) (hx : a.eval x = u) {v' : Value} {w' : World} (hr : (Builtin.copy_ #[dT, sT] o.type #[v, u]).run Try.prog w = .ok v' w') (hK : K (a.put o.dst v') w') :
    if Region.wanted o (yielded ops a.tmps) = true then Oper.wp Try.prog o a w K Q else E := by
  have hw : Region.wanted o (yielded ops a.tmps) = true := by simp [Region.wanted, hg]
  rw [if_pos hw]
  unfold Oper.wp
  simp [execOp, hop, resolve, invoke, builtin, hd, hx, hr, Result.andThen]
  exact hK
theorem size26 : (Try.prog.info? 26).map (·.size) = some 11 := by kernel_rfl
/-- The grown row's two copies, one after the other. -/
theorem grow_cells (xs zs vs : List Value) (n i : Nat) (hi : i < n) (hx : xs.length = n * 11) (hz : zs.length = (n + 1 - i) * 11) (hv : vs.length = 11) :
    ((((xs.take (i * 11) ++ zs).take (i * 11) ++ vs ++ (xs.take (i * 11) ++ zs).drop ((i + 1) * 11))).take ((i + 1) * 11) ++ xs.drop (i * 11) ++ (((xs.take (i * 11) ++ zs).take (i * 11) ++ vs ++ (xs.take (i * 11) ++ zs).drop ((i + 1) * 11))).drop ((i + 1 + (n - i)) * 11)) = xs.take (i * 11) ++ vs ++ xs.drop (i * 11) := by
  have e1 : (xs.take (i * 11)).length = i * 11 := by rw [List.length_take]; omega
  have e2 : (xs.take (i * 11) ++ zs).take (i * 11) = xs.take (i * 11) := List.take_left' e1
  have e3 : (xs.take (i * 11) ++ vs).length = (i + 1) * 11 := by rw [List.length_append, e1, hv]; omega
  rw [e2, List.take_left' e3]
  have e4 : (xs.take (i * 11) ++ vs ++ (xs.take (i * 11) ++ zs).drop ((i + 1) * 11)).length ≤ (i + 1 + (n - i)) * 11 := by
    rw [List.length_append, e3, List.length_drop, List.length_append, e1, hz]
    omega
  rw [List.drop_of_length_le e4, List.append_nil]
set_option maxHeartbeats 4000000 in
theorem insert_grow {w : World} {B n i vb : Nat} {A : Option Addr} {xs vs : List Value} (h : Own w B 26 11 A n n xs) (hB : B ≤ w.heap.size) (hn : n ≤ 2) (hi : i < n) (hv : Blk w vb 26 vs.toArray) (hl : vs.length = 11) (h1 : ∀ v ∈ vs, v.oneCell' = true) (h1x : ∀ v ∈ xs, v.oneCell' = true) :
    Calls Try.prog 51 #[.slice A n n, .int .i64 i, .slice (some ⟨vb, 0, none⟩) 1 1] w (InsP w B A n (xs.take (i * 11) ++ vs ++ xs.drop (i * 11))) := by
  obtain ⟨g, o, rfl⟩ := h.at_ (by omega)
  have hxl := h.1
  have hg := h.lt (g := g) rfl
  have hcells := h.cells
  have hT := h.takeN i (by omega)
  have hvlt := hv.lt
  have hvc : ∀ j v, vs[j]? = some v → w.cell? ⟨vb, 0 + j, none⟩ = some v := fun j v hj => by rw [hv.cell, Nat.zero_add]; simpa using hj
  have HG := Lib.hid (fun zs (hz : zs.length = (n + 1 - i) * 11) => grow_cells xs zs vs n i hi hxl hz hl)
  have CA : Hid (∀ (w2 : World) (c2 : Nat) (zs : List Value), zs.length = (n + 1 - i) * 11 → Own w2 w.heap.size 26 11 (some ⟨w.heap.size, 0, none⟩) (i + (n + 1 - i)) c2 (xs.take (i * 11) ++ zs) → Below w.heap.size w w2 → ∀ ty dc, ∃ w', (Builtin.copy_ #[36, 36] ty #[.slice (some ⟨w.heap.size, 0 + i * 11, none⟩) (i + (n + 1 - i) - i) dc, .slice (some ⟨vb, 0, none⟩) 1 1]).run Try.prog w2 = .ok (goInt 1) w' ∧ Own w' w.heap.size 26 11 (some ⟨w.heap.size, 0, none⟩) (i + (n + 1 - i)) c2 ((xs.take (i * 11) ++ zs).take (i * 11) ++ vs ++ (xs.take (i * 11) ++ zs).drop ((i + 1) * 11)) ∧ Below w.heap.size w w') := Lib.hid fun w2 c2 zs hz ho hb ty dc => by
    obtain ⟨w', r1, r2, r3⟩ := own_copy (P := Try.prog) ho 36 36 ty Try.underlying36 size26 i 1 (i + (n + 1 - i) - i) dc (by omega) vb 0 1 1 (by simp only [Nat.min_def]; split <;> omega) vs (by rw [hl]) (fun j v hj => (hb.cell (p := ⟨vb, 0 + j, none⟩) hvlt).trans (hvc j v hj)) h1
    exact ⟨w', r1, r2, hb.trans (r3.below (fun k hk e => by omega) hb.size)⟩
  have CB : Hid (∀ (w2 : World) (c2 : Nat) (zs : List Value), zs.length = (n + 1 - i) * 11 → Own w2 w.heap.size 26 11 (some ⟨w.heap.size, 0, none⟩) (i + (n + 1 - i)) c2 ((xs.take (i * 11) ++ zs).take (i * 11) ++ vs ++ (xs.take (i * 11) ++ zs).drop ((i + 1) * 11)) → Below w.heap.size w w2 → ∀ ty dc sc, ∃ w', (Builtin.copy_ #[36, 36] ty #[.slice (some ⟨w.heap.size, 0 + (i + 1) * 11, none⟩) (i + (n + 1 - i) - (i + 1)) dc, .slice (some ⟨g, o + i * 11, none⟩) (n - i) sc]).run Try.prog w2 = .ok (goInt ((n - i : Nat) : Int)) w' ∧ Own w' w.heap.size 26 11 (some ⟨w.heap.size, 0, none⟩) (i + (n + 1 - i)) c2 (xs.take (i * 11) ++ vs ++ xs.drop (i * 11)) ∧ Below w.heap.size w w') := Lib.hid fun w2 c2 zs hz ho hb ty dc sc => by
    obtain ⟨w', r1, r2, r3⟩ := own_copy (P := Try.prog) ho 36 36 ty Try.underlying36 size26 (i + 1) (n - i) (i + (n + 1 - i) - (i + 1)) dc (by omega) g (o + i * 11) (n - i) sc (by simp only [Nat.min_def]; split <;> omega) (xs.drop (i * 11)) (by rw [List.length_drop, hxl, ← Nat.sub_mul]) (fun j v hj => (hb.cell (p := ⟨g, o + i * 11 + j, none⟩) hg.2).trans (by rw [Nat.add_assoc]; exact hcells _ v (by rwa [List.getElem?_drop] at hj))) (fun v hv => h1x v (List.mem_of_mem_drop hv))
    rw [HG.out zs hz] at r2
    exact ⟨w', r1, r2, hb.trans (r3.below (fun k hk e => by omega) hb.size)⟩
  have hfin : Hid (∀ c' w', Own w' w.heap.size 26 11 (some ⟨w.heap.size, 0, none⟩) (i + (n + 1 - i)) c' (xs.take (i * 11) ++ vs ++ xs.drop (i * 11)) → Below w.heap.size w w' → InsP w B (some ⟨g, o, none⟩) n (xs.take (i * 11) ++ vs ++ xs.drop (i * 11)) (.returned (.slice (some ⟨w.heap.size, 0, none⟩) (n + 1) c')) w') := Lib.hid fun c' w' x1 x2 => ⟨some ⟨w.heap.size, 0, none⟩, c', rfl, by rw [show i + (n + 1 - i) = n + 1 by omega] at x1; exact x1.more hB, Chg.of_below x2 _, fun g' hg' hlt => by simp [blkOf] at hg'; omega⟩
  clear hv hvc hxl hcells HG h
  rcases (by omega : (n = 1 ∧ i = 0) ∨ (n = 2 ∧ i = 0) ∨ (n = 2 ∧ i = 1)) with ⟨rfl, rfl⟩ | ⟨rfl, rfl⟩ | ⟨rfl, rfl⟩
  · go_enter Try.func51, Try.ntmps51
    go_upto_region 10 with (at_builtin; refine wpList_z (P := Try.prog) rfl (.tmp 34) (.tmp 39) 36 3 rfl z26 24 Try.underlying36 Try.underlying3 info26 rfl (by decide) 0 rfl hT 2 rfl (by decide) (by decide) (by decide) (by decide) ?_; intro c2 w2 zs hz ho2 hb2)
    have hc2 := ho2.2.1
    have hc2m := ho2.2.2.1
    unfold maxLen at hc2m
    have hc2a : (0 : Int) ≤ c2 := by omega
    have hc2b : (1 : Int) ≤ c2 := by omega
    have hc2c : ¬ (c2 = 0) := by omega
    have hc2d : ¬ (c2 = 1) := by omega
    obtain ⟨w3, r3, ho3, hb3⟩ := CA.out w2 c2 zs hz ho2 hb2 3 (c2 - 0)
    obtain ⟨w4, r4, ho4, hb4⟩ := CB.out w3.drew c2 zs hz ho3.drew hb3.drew 3 (c2 - 1) (1 - 0)
    have HO4 := Lib.hid ho4
    have HR3 := Lib.hid r3
    have HR4 := Lib.hid r4
    clear ho2 ho3 ho4 hz CA CB hT hc2 r3 r4
    have hwr1 : IntKind.i64.wrap 1 = 1 := rfl
    have hwr2 : IntKind.i64.wrap 2 = 2 := rfl
    go_wp2_with (with_reducible refine wpList_cp w2 rfl (.tmp 43) (.tmp 44) 36 36 rfl (.slice (some ⟨w.heap.size, 0, none⟩) 2 (c2 - 0)) (.slice (some ⟨vb, 0, none⟩) 1 1) rfl rfl HR3.out ?_)
    go_region_law (refine step_cp rfl (.tmp 50) (.tmp 53) 36 36 rfl (.slice (some ⟨w.heap.size, 11, none⟩) 1 (c2 - 1)) (.slice (some ⟨g, o + 0, none⟩) 1 (1 - 0)) (by simp [Act.eval, Act.put]) (by simp [Act.eval, Act.put]) HR4.out ?_)
    all_goals
      go_wp2_with fail
      go_ret
      exact hfin.out _ _ HO4.out hb4
  · go_enter Try.func51, Try.ntmps51
    go_upto_region 10 with (at_builtin; refine wpList_z (P := Try.prog) rfl (.tmp 34) (.tmp 39) 36 3 rfl z26 24 Try.underlying36 Try.underlying3 info26 rfl (by decide) 0 rfl hT 3 rfl (by decide) (by decide) (by decide) (by decide) ?_; intro c2 w2 zs hz ho2 hb2)
    have hc2 := ho2.2.1
    have hc2m := ho2.2.2.1
    unfold maxLen at hc2m
    have hc2a : (0 : Int) ≤ c2 := by omega
    have hc2b : (1 : Int) ≤ c2 := by omega
    have hc2c : ¬ (c2 = 0) := by omega
    have hc2d : ¬ (c2 = 1) := by omega
    obtain ⟨w3, r3, ho3, hb3⟩ := CA.out w2 c2 zs hz ho2 hb2 3 (c2 - 0)
    obtain ⟨w4, r4, ho4, hb4⟩ := CB.out w3.drew c2 zs hz ho3.drew hb3.drew 3 (c2 - 1) (2 - 0)
    have HO4 := Lib.hid ho4
    have HR3 := Lib.hid r3
    have HR4 := Lib.hid r4
    clear ho2 ho3 ho4 hz CA CB hT hc2 r3 r4
    have hwr1 : IntKind.i64.wrap 1 = 1 := rfl
    have hwr2 : IntKind.i64.wrap 2 = 2 := rfl
    go_wp2_with (with_reducible refine wpList_cp w2 rfl (.tmp 43) (.tmp 44) 36 36 rfl (.slice (some ⟨w.heap.size, 0, none⟩) 3 (c2 - 0)) (.slice (some ⟨vb, 0, none⟩) 1 1) rfl rfl HR3.out ?_)
    go_region_law (refine step_cp rfl (.tmp 50) (.tmp 53) 36 36 rfl (.slice (some ⟨w.heap.size, 11, none⟩) 2 (c2 - 1)) (.slice (some ⟨g, o + 0, none⟩) 2 (2 - 0)) (by simp [Act.eval, Act.put]) (by simp [Act.eval, Act.put]) HR4.out ?_)
    all_goals
      go_wp2_with fail
      go_ret
      exact hfin.out _ _ HO4.out hb4
  · go_enter Try.func51, Try.ntmps51
    go_upto_region 10 with (at_builtin; refine wpList_z (P := Try.prog) rfl (.tmp 34) (.tmp 39) 36 3 rfl z26 24 Try.underlying36 Try.underlying3 info26 rfl (by decide) 1 rfl hT 2 rfl (by decide) (by decide) (by decide) (by decide) ?_; intro c2 w2 zs hz ho2 hb2)
    have hc2 := ho2.2.1
    have hc2m := ho2.2.2.1
    unfold maxLen at hc2m
    have hc2a : (1 : Int) ≤ c2 := by omega
    have hc2b : (2 : Int) ≤ c2 := by omega
    have hc2c : ¬ (c2 = 1) := by omega
    have hc2d : ¬ (c2 = 2) := by omega
    obtain ⟨w3, r3, ho3, hb3⟩ := CA.out w2 c2 zs hz ho2 hb2 3 (c2 - 1)
    obtain ⟨w4, r4, ho4, hb4⟩ := CB.out w3.drew c2 zs hz ho3.drew hb3.drew 3 (c2 - 2) (2 - 1)
    have HO4 := Lib.hid ho4
    have HR3 := Lib.hid r3
    have HR4 := Lib.hid r4
    clear ho2 ho3 ho4 hz CA CB hT hc2 r3 r4
    have hwr1 : IntKind.i64.wrap 1 = 1 := rfl
    have hwr2 : IntKind.i64.wrap 2 = 2 := rfl
    go_wp2_with (with_reducible refine wpList_cp w2 rfl (.tmp 43) (.tmp 44) 36 36 rfl (.slice (some ⟨w.heap.size, 11, none⟩) 2 (c2 - 1)) (.slice (some ⟨vb, 0, none⟩) 1 1) rfl rfl HR3.out ?_)
    go_region_law (refine step_cp rfl (.tmp 50) (.tmp 53) 36 36 rfl (.slice (some ⟨w.heap.size, 22, none⟩) 1 (c2 - 2)) (.slice (some ⟨g, o + 11, none⟩) 1 (2 - 1)) (by simp [Act.eval, Act.put]) (by simp [Act.eval, Act.put]) HR4.out ?_)
    all_goals
      go_wp2_with fail
      go_ret
      exact hfin.out _ _ HO4.out hb4
/-- The shifted row's two copies, one after the other. -/
theorem shift_cells (xs ys vs : List Value) (n i : Nat) (hi : i < n) (hx : xs.length = n * 11) (hy : ys.length = 11) (hv : vs.length = 11) :
    ((((xs ++ ys).take ((i + 1) * 11) ++ xs.drop (i * 11) ++ (xs ++ ys).drop ((i + 1 + (n - i)) * 11))).take (i * 11) ++ vs ++ (((xs ++ ys).take ((i + 1) * 11) ++ xs.drop (i * 11) ++ (xs ++ ys).drop ((i + 1 + (n - i)) * 11))).drop ((i + 1) * 11)) = xs.take (i * 11) ++ vs ++ xs.drop (i * 11) := by
  have e0 : (i + 1) * 11 ≤ xs.length := by omega
  have e1 : (xs ++ ys).drop ((i + 1 + (n - i)) * 11) = [] := by
    rw [List.drop_of_length_le]
    rw [List.length_append, hx, hy]
    omega
  have e2 : (xs ++ ys).take ((i + 1) * 11) = xs.take ((i + 1) * 11) := List.take_append_of_le_length e0
  have e3 : (xs.take ((i + 1) * 11)).length = (i + 1) * 11 := by rw [List.length_take]; omega
  rw [e1, e2, List.append_nil, List.drop_left' e3, List.take_append_of_le_length (by rw [e3]; omega), List.take_take, Nat.min_eq_left (by omega)]
set_option maxHeartbeats 4000000 in
theorem insert_shift {w : World} {B n c i vb : Nat} {A : Option Addr} {xs vs : List Value} (h : Own w B 26 11 A n c xs) (hB : B ≤ w.heap.size) (hn : n ≤ 2) (hi : i < n) (hroom : n + 1 ≤ c) (hv : Blk w vb 26 vs.toArray) (hne : blkOf A ≠ some vb) (hl : vs.length = 11) (h1 : ∀ v ∈ vs, v.oneCell' = true) (h1x : ∀ v ∈ xs, v.oneCell' = true) :
    Calls Try.prog 51 #[.slice A n c, .int .i64 i, .slice (some ⟨vb, 0, none⟩) 1 1] w (InsP w B A n (xs.take (i * 11) ++ vs ++ xs.drop (i * 11))) := by
  obtain ⟨g, o, rfl⟩ := h.at_ (by omega)
  have hxl := h.1
  have hcm := h.2.2.1
  unfold maxLen at hcm
  have hgv : vb ≠ g := fun e => hne (by rw [e]; rfl)
  obtain ⟨ys, hS⟩ := h.stretch (n + 1) hroom (by omega)
  have hyl : ys.length = 11 := by
    have := hS.1
    rw [List.length_append, hxl] at this
    omega
  have hcells := h.cells
  have hov : ∀ W lb cb, (W = w ∨ W = w) → (callFunc 56 #[.slice (some ⟨vb, 0, none⟩) 1 1, .slice (some ⟨g, o + (i + 1) * 11, none⟩) lb cb]).run Try.prog w = .ok (.value (.bool false)) w := fun W lb cb _ => by
    obtain ⟨g', off', cur, ha, hb, hh, hfit, htake⟩ := h.2.2.2.2 _ rfl
    simp only [Addr.mk.injEq, and_true] at ha
    obtain ⟨rfl, rfl⟩ := ha
    have hsa : w.shape? vb = some (26, vs.toArray.size) := by
      have hvb := hv
      unfold Blk at hvb
      unfold World.shape?
      rw [hvb]
    have hsb : w.shape? g = some (26, cur.size) := by
      unfold World.shape?
      rw [hh]
    rw [run_callFunc_extern Try.func56 (by kernel_rfl) (by kernel_rfl) (by kernel_rfl) (e := Extern.SlicesOverlaps.overlaps #[36, 36] #[4]) (by kernel_rfl),
      Lib.run_overlaps_apart w 36 4 26 Try.underlying36 11 Try.sizeOf26 ⟨vb, 0, none⟩ ⟨g, o + (i + 1) * 11, none⟩ 1 1 lb cb hgv 26 26 _ _ hsa hsb (by omega) (hv.frozen 0) (hv.frozen _)]
    rfl
  have hvc : ∀ j v, vs[j]? = some v → w.cell? ⟨vb, 0 + j, none⟩ = some v := fun j v hj => by rw [hv.cell, Nat.zero_add]; simpa using hj
  have hvlt := hv.lt
  -- the first copy
  obtain ⟨w1, r1, ho1, hc1⟩ := own_copy (P := Try.prog) (w := w.drew) hS.drew 36 36 3 Try.underlying36 size26 (i + 1) (n - i) (n + 1 - (i + 1)) (c - (i + 1)) (by omega) g (o + i * 11) (n + 1 - i) (c - i) (by simp only [Nat.min_def]; split <;> omega) (xs.drop (i * 11)) (by rw [List.length_drop, hxl, ← Nat.sub_mul]) (fun j v hj => by rw [Nat.add_assoc]; exact hcells _ v (by rwa [List.getElem?_drop] at hj)) (fun v hv => h1x v (List.mem_of_mem_drop hv))
  obtain ⟨w2, r2, ho2, hc2⟩ := own_copy (P := Try.prog) ho1 36 36 3 Try.underlying36 size26 i 1 (n + 1 - i) (c - i) (by omega) vb 0 1 1 (by simp only [Nat.min_def]; split <;> omega) vs (by rw [hl]) (fun j v hj => (World.cell?_of_block (a := ⟨vb, 0 + j, none⟩) (hc1.block vb hvlt (fun e => hgv e))).trans (hvc j v hj)) h1
  rw [shift_cells xs ys vs n i hi hxl hyl hl] at ho2
  have hcc : Chg (fun k => blkOf (some (⟨g, o, none⟩ : Addr)) = some k) w w2 := ((Chg.refl _ w).drew.trans hc1 (fun k _ e => by rw [e]; rfl)).trans hc2 (fun k _ e => by rw [e]; rfl)
  have hfin : Hid (InsP w B (some ⟨g, o, none⟩) n (xs.take (i * 11) ++ vs ++ xs.drop (i * 11)) (.returned (.slice (some ⟨g, o, none⟩) (n + 1) c)) w2) := Lib.hid ⟨_, c, rfl, ho2, hcc, fun g' hg' _ => hg'⟩
  have HR1 := Lib.hid r1
  have HR2 := Lib.hid r2
  have HOV := Lib.hid (fun lb cb => hov w lb cb (.inl rfl))
  have hca : (n : Int) + 1 ≤ c := by omega
  have hcb : ¬ (c = i) := by omega
  have hcd : ¬ (c = i + 1) := by omega
  have hce : ¬ (c < n + 1) := by omega
  clear hov hcells hvc r1 r2 ho1 ho2 hc1 hc2 hcc hS hyl hxl h hv
  rcases (by omega : (n = 1 ∧ i = 0) ∨ (n = 2 ∧ i = 0) ∨ (n = 2 ∧ i = 1)) with ⟨rfl, rfl⟩ | ⟨rfl, rfl⟩ | ⟨rfl, rfl⟩
  · have hca2 : (2 : Int) ≤ c := by omega
    have hca3 : ¬ ((c : Int) < 2) := by omega
    have hca4 : (0 : Int) ≤ c := by omega
    have hca5 : ¬ (c = 1) := by omega
    have hca6 : (1 : Int) ≤ c := by omega
    have hwr1 : IntKind.i64.wrap 1 = 1 := rfl
    have hwr2 : IntKind.i64.wrap 2 = 2 := rfl
    have hov : ∀ lb cb, (callFunc 56 #[.slice (some ⟨vb, 0, none⟩) 1 1, .slice (some ⟨g, o + 11, none⟩) lb cb]).run Try.prog w = .ok (.value (.bool false)) w := HOV.out
    go_enter Try.func51, Try.ntmps51
    go_wp2_with (simp only [hov])
    go_region_law (refine step_cp rfl (.tmp 73) (.tmp 76) 36 36 rfl (.slice (some ⟨g, o + 11, none⟩) 1 (c - 1)) (.slice (some ⟨g, o, none⟩) 2 (c - 0)) (by simp [Act.eval, Act.put]) (by simp [Act.eval, Act.put]) HR1.out ?_)
    all_goals
      go_wp2_with (with_reducible refine wpList_cp w1 rfl (.tmp 80) (.tmp 81) 36 36 rfl (.slice (some ⟨g, o, none⟩) 2 (c - 0)) (.slice (some ⟨vb, 0, none⟩) 1 1) rfl rfl HR2.out ?_)
      go_ret
      exact hfin.out
  · have hca2 : (3 : Int) ≤ c := by omega
    have hca3 : ¬ ((c : Int) < 3) := by omega
    have hca4 : (0 : Int) ≤ c := by omega
    have hca5 : ¬ (c = 1) := by omega
    have hca6 : (1 : Int) ≤ c := by omega
    have hwr1 : IntKind.i64.wrap 1 = 1 := rfl
    have hwr2 : IntKind.i64.wrap 2 = 2 := rfl
    have hov : ∀ lb cb, (callFunc 56 #[.slice (some ⟨vb, 0, none⟩) 1 1, .slice (some ⟨g, o + 11, none⟩) lb cb]).run Try.prog w = .ok (.value (.bool false)) w := HOV.out
    go_enter Try.func51, Try.ntmps51
    go_wp2_with (simp only [hov])
    go_region_law (refine step_cp rfl (.tmp 73) (.tmp 76) 36 36 rfl (.slice (some ⟨g, o + 11, none⟩) 2 (c - 1)) (.slice (some ⟨g, o, none⟩) 3 (c - 0)) (by simp [Act.eval, Act.put]) (by simp [Act.eval, Act.put]) HR1.out ?_)
    all_goals
      go_wp2_with (with_reducible refine wpList_cp w1 rfl (.tmp 80) (.tmp 81) 36 36 rfl (.slice (some ⟨g, o, none⟩) 3 (c - 0)) (.slice (some ⟨vb, 0, none⟩) 1 1) rfl rfl HR2.out ?_)
      go_ret
      exact hfin.out
  · have hca2 : (3 : Int) ≤ c := by omega
    have hca3 : ¬ ((c : Int) < 3) := by omega
    have hca4 : (1 : Int) ≤ c := by omega
    have hca5 : ¬ (c = 2) := by omega
    have hca6 : (2 : Int) ≤ c := by omega
    have hwr1 : IntKind.i64.wrap 1 = 1 := rfl
    have hwr2 : IntKind.i64.wrap 2 = 2 := rfl
    have hov : ∀ lb cb, (callFunc 56 #[.slice (some ⟨vb, 0, none⟩) 1 1, .slice (some ⟨g, o + 22, none⟩) lb cb]).run Try.prog w = .ok (.value (.bool false)) w := HOV.out
    go_enter Try.func51, Try.ntmps51
    go_wp2_with (simp only [hov])
    go_region_law (refine step_cp rfl (.tmp 73) (.tmp 76) 36 36 rfl (.slice (some ⟨g, o + 22, none⟩) 1 (c - 2)) (.slice (some ⟨g, o + 11, none⟩) 2 (c - 1)) (by simp [Act.eval, Act.put]) (by simp [Act.eval, Act.put]) HR1.out ?_)
    all_goals
      go_wp2_with (with_reducible refine wpList_cp w1 rfl (.tmp 80) (.tmp 81) 36 36 rfl (.slice (some ⟨g, o + 11, none⟩) 2 (c - 1)) (.slice (some ⟨vb, 0, none⟩) 1 1) rfl rfl HR2.out ?_)
      go_ret
      exact hfin.out
end Go.Proofs.Ytbmkfjgodgmjnaa
