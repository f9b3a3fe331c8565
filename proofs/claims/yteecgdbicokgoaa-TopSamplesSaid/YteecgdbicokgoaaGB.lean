/- Daq: SetPtr. -/
import Derived.Test.YteecgdbicokgoaaGA
import Derived.Test.YteecgdbicokgoaaG5
namespace Go.Proofs.Yteecgdbicokgoaa
open Go.RowKit
set_option linter.unusedVariables false
set_option linter.unusedSimpArgs false
set_option maxRecDepth 100000
/-- A table. -/
def tabOf (ls : List Ls) (i k : Nat) : Option (Ls × List En) := (ls[i]?).bind fun x => (x.tabs[k]?).map fun t => (x, t)
theorem tabOf_some {ls : List Ls} {i k : Nat} {x : Ls} {t : List En} (hx : ls[i]? = some x) (ht : x.tabs[k]? = some t) : tabOf ls i k = some (x, t) := by
  unfold tabOf
  rw [hx]
  show (x.tabs[k]?).map _ = _
  rw [ht]
  rfl
theorem tabOf_none {cl : List Lc} {i k : Nat} (h : ∀ x, cl[i]? = some x → x.tabs.length ≤ k) : tabOf (abs cl) i k = none := by
  unfold tabOf
  cases hx : cl[i]? with
  | none => rw [show (abs cl)[i]? = none by simp [abs, hx]]; rfl
  | some x =>
    rw [abs_get hx]
    show (x.ab.tabs[k]?).map _ = _
    rw [List.getElem?_eq_none (by simp only [Lc.ab, List.length_map]; exact h x hx)]
    rfl
theorem ab_tab {x : Lc} {k : Nat} {t : Tb} (h : x.tabs[k]? = some t) : x.ab.tabs[k]? = some t.es := by simp [Lc.ab, h, Tb.ab]
/-- SetPtr. -/
def pointX (a : Dq) (c : Cm) : Dq × Int :=
  match tabOf a.ls c.a0.toNat c.a1.toNat with
  | none => (a, 1)
  | some (x, t) => if (t.length : Int) ≤ c.a2 then (a, 1) else if x.on then (a, 110) else ({ a with ptr := some (c.a0.toNat, c.a1.toNat, c.a2.toNat) }, 0)
theorem ptr_ok {a : Dq} (h : a.ok) {i k z : Nat} {x : Ls} {t : List En} (hx : a.ls[i]? = some x) (ht : x.tabs[k]? = some t) (hz : z < t.length) : ({ a with ptr := some (i, k, z) } : Dq).ok :=
  ⟨h.e1, h.e4, h.s3, h.n4, h.m16, h.t7, h.f0, h.wf, h.z0, fun p hp => by
    have hp' : some (i, k, z) = some p := hp
    injection hp' with hp'
    subst hp'
    exact ⟨x, t, hx, ht, hz⟩⟩
set_option maxRecDepth 100000 in
set_option maxHeartbeats 8000000 in
theorem point_any {Φ : Who} {B q : Nat} {w : World} {a : Dq} (h : DX Φ B w q a) (hN : Nu Φ w) (c : Cm) (hc : c.wf) : Calls Try.prog 95 #[.pointer (some ⟨q, 0, none⟩), c.val] w (AnsP Φ B w q (pointX a c).1 [] (pointX a c).2) := by
  have HD := Lib.hid h
  have HN := Lib.hid hN
  obtain ⟨hok, A0, c0, cl, P, hab, hX⟩ := h
  have HOK := Lib.hid hok
  have HAB := Lib.hid hab
  have hb := bl1 w (.cells c.cs.toArray 35)
  have HXX := Lib.hid hX
  obtain ⟨i, hi⟩ : ∃ i : Nat, c.a0 = i := ⟨c.a0.toNat, by have := hc.h0.1; omega⟩
  obtain ⟨k, hk⟩ : ∃ k : Nat, c.a1 = k := ⟨c.a1.toNat, by have := hc.h1.1; omega⟩
  obtain ⟨z, hz⟩ : ∃ z : Nat, c.a2 = z := ⟨c.a2.toNat, by have := hc.h2.1; omega⟩
  have hi256 : i < 256 := by have := hc.h0.2; omega
  have hk256 : k < 256 := by have := hc.h1.2; omega
  have hz256 : z < 256 := by have := hc.h2.2; omega
  have hit : c.a0.toNat = i := by omega
  have hkt : c.a1.toNat = k := by omega
  have hzt : c.a2.toNat = z := by omega
  have HI := Lib.hid hi
  have HK := Lib.hid hk
  have HZ := Lib.hid hz
  have hzI : (z : Int) < 256 := by omega
  have hwz : IntKind.i64.wrap (z : Int) = z := IntWalk.i64_in _ (by omega)
  have hn4 := hok.n4
  rw [← hab, abs_len] at hn4
  have h16 : ∀ (j : Nat) (y : Lc), cl[j]? = some y → y.tabs.length ≤ 16 := fun j y hy => by
    have h1 := many_get _ _ _ (abs_get hy)
    rw [hab] at h1
    have h2 := hok.m16
    have h3 : y.ab.tabs.length = y.tabs.length := by simp [Lc.ab]
    omega
  rcases (by
      by_cases h : ∃ x, cl[i]? = some x ∧ k < x.tabs.length
      · exact .inl h
      · exact .inr fun x hx => Nat.le_of_not_lt fun hlt => h ⟨x, hx, hlt⟩ : (∃ x, cl[i]? = some x ∧ k < x.tabs.length) ∨ ∀ x, cl[i]? = some x → x.tabs.length ≤ k) with hyes | hno
  · obtain ⟨x, hx, hkx⟩ := hyes
    obtain ⟨t, ht⟩ : ∃ t, x.tabs[k]? = some t := ⟨_, List.getElem?_eq_getElem hkx⟩
    have hil : i < cl.length := (List.getElem?_eq_some_iff.1 hx).1
    obtain ⟨g, o, rfl⟩ := hX.ad hil
    obtain ⟨gt, ot, hxA⟩ := (hX.tab i x hx).1.at_ (by omega)
    have hE : pointX a c = if (t.es.length : Int) ≤ c.a2 then (a, 1) else if x.on then (a, 110) else ({ a with ptr := some (i, k, z) }, 0) := by
      unfold pointX
      rw [hit, hkt, hzt, ← hab, tabOf_some (abs_get hx) (ab_tab ht)]
      rfl
    have HE := Lib.hid hE
    have HPK : Hid (z < t.es.length → ({ a with ptr := some (i, k, z) } : Dq).ok) := Lib.hid fun h => ptr_ok HOK.out (by rw [← hab]; exact abs_get hx) (ab_tab ht) h
    have L := Lib.hid (table_yes (hX.below hb) hi256 hk256 hx hkx hxA)
    have hRx := (hX.below hb).rl
    have RT := hRx.tab i x hx
    rw [hxA] at RT
    have RT := Rd.rule RT (tcells_at ht)
    have RO := hRx.row.rule (lcells_at hx (j := 6) rfl)
    rw [← Nat.add_assoc] at RO
    have RC : ∀ w', Below (w.alloc (.cells c.cs.toArray 35)).heap.size (w.alloc (.cells c.cs.toArray 35)) w' → ∀ i, w'.cell? ⟨w.heap.size, i, none⟩ = c.cs.toArray[i]? := (Blk.new w 35 c.cs.toArray).rule
    have RD := (hX.below hb).blk.rule
    have hilI : (i : Int) < cl.length := by omega
    obtain ⟨m, hm⟩ : ∃ m, t.es.length = m := ⟨_, rfl⟩
    obtain ⟨on, hon⟩ : ∃ on, x.on = on := ⟨_, rfl⟩
    rw [hm] at HE HPK RT
    rw [hon] at HE RO
    clear hX hok hab hN hit hkt hzt hi hk hz hE hRx hx ht hkx hxA hm hon
    go_enter Try.func95, Try.ntmps95
    go_upto_region 1 with fail
    refine wp_named fun W hW => ?_
    have hbW : Below w.heap.size w W := by subst hW; exact hb
    have L : Calls Try.prog 120 #[.pointer (some ⟨q, 0, none⟩), .int .u8 i, .int .u8 k] W fun e w' => e = .returned (.pointer (some ⟨gt, ot + k, none⟩)) ∧ W = w' := by subst hW; exact L.out
    have RT : ∀ w', Below W.heap.size W w' → w'.cell? ⟨gt, ot + k, none⟩ = some (.slice t.A m t.c) := by subst hW; exact RT
    have RO : ∀ w', Below W.heap.size W w' → w'.cell? ⟨g, o + i * 8 + 6, none⟩ = some (.bool on) := by subst hW; exact RO
    have RC : ∀ w', Below W.heap.size W w' → ∀ i, w'.cell? ⟨w.heap.size, i, none⟩ = c.cs.toArray[i]? := by subst hW; exact RC
    have RD : ∀ w', Below W.heap.size W w' → ∀ i, w'.cell? ⟨q, i, none⟩ = (#[.int .i64 a.evs, .int .i64 a.step, .slice (some ⟨g, o, none⟩) cl.length c0, .pointer P] : Array Value)[i]? := by subst hW; exact RD
    have hcc := RC W (Below.refl _ _)
    have HM : Hid (∀ r : Dq × Int, pointX a c = r → ∀ e w', AnsP Φ B w q r.1 [] r.2 e w' → AnsP Φ B w q (pointX a c).1 [] (pointX a c).2 e w') := Lib.hid fun r h e w' h2 => by rw [h]; exact h2
    have hi := HI.out
    have hk := HK.out
    have hz := HZ.out
    clear hW
    go_wp2_with fail
    refine L.mono ?_
    rintro e w' ⟨rfl, rfl⟩
    clear L hcc
    go_wp2_with fail
    by_cases hzm : m ≤ z
    · have d1 : decide ((z : Int) ≥ m) = true := decide_eq_true (by omega)
      have d2 : (m : Int) ≤ z := by omega
      have FF : Hid (∀ w', Below W.heap.size W w' → AnsP Φ B w q (pointX a c).1 [] (pointX a c).2 (.returned (.tuple #[.slice none 0 0, .int .i64 1])) w') := Lib.hid (fun w' hb2 => HM.out (a, 1) (by rw [HE.out, hz, if_pos d2]) _ w' (AnsP.stay (E := 1) HD.out HN.out (hbW.trans (hb2.mono hbW.size))))
      refine wp_region_c (fun w' => Below W.heap.size W w') (by kernel_rfl) (by kernel_rfl) ((Below.refl _ _).drew) ?_
      repeat (first
        | (refine wpL_skip (by rfl) ?_; try simp only [Act.put, List.setIfInBounds_toArray, List.set_cons_zero, List.set_cons_succ, Nat.reduceAdd])
        | (refine wpL_val (v := ?_) (by rfl) ?_ ?_; rotate_left; · (intro w' hS; go_simp; first | done | with_reducible rfl)
           try simp only [Act.put, List.setIfInBounds_toArray, List.set_cons_zero, List.set_cons_succ, Nat.reduceAdd]))
      refine wpL_done (fun w9 hS => ?_)
      go_wp2_with fail
      go_ret2
      exact FF.out w9 hS
    · have d1 : decide ((z : Int) ≥ m) = false := decide_eq_false (by omega)
      have d2 : ¬ ((m : Int) ≤ z) := by omega
      have D2 := Lib.hid d2
      have d3 : decide ((m : Int) ≤ z) = false := decide_eq_false d2
      refine wp_region_c (fun w' => Below W.heap.size W w') (by kernel_rfl) (by kernel_rfl) ((Below.refl _ _).drew) ?_
      repeat (first
        | (refine wpL_skip (by rfl) ?_; try simp only [Act.put, List.setIfInBounds_toArray, List.set_cons_zero, List.set_cons_succ, Nat.reduceAdd])
        | (refine wpL_val (v := ?_) (by rfl) ?_ ?_; rotate_left; · (intro w' hS; go_simp; first | done | with_reducible rfl)
           try simp only [Act.put, List.setIfInBounds_toArray, List.set_cons_zero, List.set_cons_succ, Nat.reduceAdd]))
      refine wpL_done (fun w9 hS => ?_)
      have hb9 := hbW.trans (hS.mono hbW.size)
      have RO9 := fun w' (hb : Below w9.heap.size w9 w') => RO w' (bel2 hS hb)
      have RC9 := fun w' (hb : Below w9.heap.size w9 w') => RC w' (bel2 hS hb)
      have RD9 := fun w' (hb : Below w9.heap.size w9 w') => RD w' (bel2 hS hb)
      clear hS RO RC RD RT
      go_wp2_with fail
      refine wp_region_c (fun w' => Below w9.heap.size w9 w') (by kernel_rfl) (by kernel_rfl) ((Below.refl _ _).drew) ?_
      repeat (first
        | (refine wpL_skip (by rfl) ?_; try simp only [Act.put, List.setIfInBounds_toArray, List.set_cons_zero, List.set_cons_succ, Nat.reduceAdd])
        | (refine wpL_val (v := ?_) (by rfl) ?_ ?_; rotate_left; · (intro w' hS; go_simp; first | done | with_reducible rfl)
           try simp only [Act.put, List.setIfInBounds_toArray, List.set_cons_zero, List.set_cons_succ, Nat.reduceAdd]))
      refine wpL_done (fun w8 hS => ?_)
      have hb8 := hb9.trans (hS.mono hb9.size)
      cases on with
      | true =>
        have FF := Lib.hid (HM.out (a, 110) (by rw [HE.out, hz, if_neg (show ¬ ((m : Int) ≤ z) by have := D2.out; omega)]; rfl) _ w8 (AnsP.stay (E := 110) HD.out HN.out hb8))
        go_wp2_with fail
        go_ret2
        exact FF.out
      | false =>
        have rc8 := RC9 w8 hS
        have hB8 := HXX.out.blk.below hb8
        have rd8 := hB8.cell
        have HB8 := Lib.hid hB8
        have hEE : pointX a c = ({ a with ptr := some (i, k, z) }, 0) := by rw [HE.out, hz, if_neg (show ¬ ((m : Int) ≤ z) by have := D2.out; omega)]; rfl
        have HEE := Lib.hid hEE
        have hiI : (i : Int) < 256 := by omega
        have hkI : (k : Int) < 256 := by omega
        have hzm' : z < m := by omega
        clear RO9 RC9 RD9 hEE
        go_wp2_with (refine wpList_stB rfl 162 (.tmp 56) (.tmp 54) rfl (.pointer (some ⟨w8.heap.size, 0, none⟩)) 3 rfl rfl (HB8.out.below (bl1 w8 _)) (by simp [Value.cells]) (by kernel_rfl) (by simp [Value.cells, Value.oneCell']) ?_; intro w5 B5 g5)
        go_ret2
        have B5 : Blk w5 q 164 #[.int .i64 a.evs, .int .i64 a.step, .slice (some ⟨g, o, none⟩) cl.length c0, .pointer (some ⟨w8.heap.size, 0, none⟩)] := B5
        obtain ⟨Φ', h1, h2⟩ := HXX.out.setP HN.out (hb8.trans ((bl1 w8 (.cells #[.int .i64 i, .int .i64 k, .int .i64 z] 213)).mono hb8.size)) hb8.size (p := (i, k, z)) (Blk.new _ _ _) g5 B5
        exact HM.out _ HEE.out _ w5 (AnsP.none_ (E := 0) Φ' ⟨HPK.out hzm', _, _, _, _, HAB.out, h1⟩ h2)
  · have L := Lib.hid (table_no (hX.below hb) hi256 hk256 hno)
    have hE : pointX a c = (a, 1) := by unfold pointX; rw [hit, hkt, ← hab, tabOf_none hno]
    have HE := Lib.hid hE
    clear hX hok hab hN hit hkt hzt hi hk hz hE hno
    go_enter Try.func95, Try.ntmps95
    go_upto_region 1 with fail
    refine wp_named fun W hW => ?_
    have hbW : Below w.heap.size w W := by subst hW; exact hb
    have L : Calls Try.prog 120 #[.pointer (some ⟨q, 0, none⟩), .int .u8 i, .int .u8 k] W fun e w' => e = .returned (.pointer none) ∧ W = w' := by subst hW; exact L.out
    have hcc : ∀ i, W.cell? ⟨w.heap.size, i, none⟩ = c.cs.toArray[i]? := by subst hW; exact (Blk.new _ _ _).cell
    have FF : Hid (∀ w', Below W.heap.size W w' → AnsP Φ B w q (pointX a c).1 [] (pointX a c).2 (.returned (.tuple #[.slice none 0 0, .int .i64 1])) w') := Lib.hid (fun w' hb2 => by rw [HE.out]; exact AnsP.stay (E := 1) HD.out HN.out (hbW.trans (hb2.mono hbW.size)))
    have hi := HI.out
    have hk := HK.out
    clear hW
    go_wp2_with fail
    refine L.mono ?_
    rintro e w' ⟨rfl, rfl⟩
    clear L
    go_wp2_with fail
    refine wp_region_c (fun w' => Below W.heap.size W w') (by kernel_rfl) (by kernel_rfl) ((Below.refl _ _).drew) ?_
    repeat (first
      | (refine wpL_skip (by rfl) ?_; try simp only [Act.put, List.setIfInBounds_toArray, List.set_cons_zero, List.set_cons_succ, Nat.reduceAdd])
      | (refine wpL_val (v := ?_) (by rfl) ?_ ?_; rotate_left; · (intro w' hS; go_simp; first | done | with_reducible rfl)
         try simp only [Act.put, List.setIfInBounds_toArray, List.set_cons_zero, List.set_cons_succ, Nat.reduceAdd]))
    refine wpL_done (fun w9 hS => ?_)
    go_wp2_with fail
    go_ret2
    exact FF.out w9 hS
end Go.Proofs.Yteecgdbicokgoaa
