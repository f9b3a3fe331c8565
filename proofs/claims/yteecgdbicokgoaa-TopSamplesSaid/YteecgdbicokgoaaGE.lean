/- Daq: WriteDaq. -/
import Derived.Test.YteecgdbicokgoaaGD
namespace Go.Proofs.Yteecgdbicokgoaa
open Go.RowKit
set_option linter.unusedVariables false
set_option linter.unusedSimpArgs false
set_option maxRecDepth 100000
def sumE (l : List En) : Int := (l.map En.size).sum
theorem sumE_take : ∀ (l : List En) (j : Nat) (y : En), l[j]? = some y → sumE (l.take (j + 1)) = sumE (l.take j) + y.size
  | [], j, y, h => by simp at h
  | e :: l, 0, y, h => by simp at h; subst h; simp [sumE]
  | e :: l, j + 1, y, h => by
    have ih := sumE_take l j y (by simpa using h)
    simp only [sumE, List.take_succ_cons, List.map_cons, List.sum_cons] at ih ⊢
    omega
theorem sumE_le : ∀ (l : List En), (∀ e ∈ l, e.wf) → 0 ≤ sumE l ∧ sumE l ≤ 256 * l.length
  | [], _ => by simp [sumE]
  | e :: l, h => by
    have ih := sumE_le l fun x hx => h x (List.mem_cons_of_mem _ hx)
    have he := h e (List.mem_cons_self ..)
    have h0 := he.s0
    have h1 := he.s1
    simp only [sumE, List.map_cons, List.sum_cons, List.length_cons] at ih ⊢
    omega
def writeT (a : Dq) (ls : List Ls) (x : Ls) (t : List En) (e : En) (i k z : Nat) (c : Cm) : Dq × Int :=
  if c.a0 = 0 ∨ 7 < c.a0 - e.size + sumE t then (a, 1) else if x.on then (a, 110) else
  ({ a with ls := ls.set i { x with tabs := x.tabs.set k (t.set z ⟨c.a0, c.a1, c.w⟩) }, ptr := if z + 1 = t.length then none else some (i, k, z + 1) }, 0)
/-- WriteDaq. -/
def writeDX (a : Dq) (c : Cm) : Dq × Int :=
  match a.ptr with
  | none => (a, 90)
  | some (i, k, z) => match tabOf a.ls i k with
    | none => (a, 90)
    | some (x, t) => match t[z]? with
      | none => (a, 90)
      | some e => writeT a a.ls x t e i k z c
theorem writeX_none {a : Dq} {c : Cm} (h : a.ptr = none) : writeDX a c = (a, 90) := by unfold writeDX; rw [h]
theorem writeX_some {a : Dq} {c : Cm} {i k z : Nat} {x : Ls} {t : List En} {e : En} (h : a.ptr = some (i, k, z)) (hx : a.ls[i]? = some x) (ht : x.tabs[k]? = some t) (he : t[z]? = some e) : writeDX a c = writeT a a.ls x t e i k z c := by
  unfold writeDX
  rw [h]
  show (match tabOf a.ls i k with | none => _ | some (x, t) => _) = _
  rw [tabOf_some hx ht]
  show (match t[z]? with | none => _ | some e => _) = _
  rw [he]
theorem DSC.setW {Φ : Who} {B q evs step c0 gc : Nat} {A0 P : Option Addr} {cl : List Lc} {pt : Option (Nat × Nat × Nat)} {w0 w w' : World} {c : Cm} (h : DSC Φ B q evs step A0 c0 cl P pt w0 gc c w) (h4 : cl.length ≤ 4) (h16 : ∀ (j : Nat) (y : Lc), cl[j]? = some y → y.tabs.length ≤ 16) {i k z : Nat} {x : Lc} {t : Tb} (hx : cl[i]? = some x) (ht : x.tabs[k]? = some t) (hz : z < t.es.length) {g o : Nat} (hA : t.A = some ⟨g, o, none⟩) {e : En}
    (ho : Own w' B 76 3 t.A t.es.length t.c (putL (ecells t.es) (z * 3 + 0) e.cs)) (hg : w.grownBy w' (some g)) : DSC Φ B q evs step A0 c0 (cl.set i { x with tabs := x.tabs.set k { t with es := t.es.set z e } }) P pt w0 gc c w' := by
  obtain ⟨h1, h2⟩ := h.d.x.setW h.d.e.nu h4 h16 hx ht hz hA ho hg
  exact ⟨⟨h1, h.d.e.trans h2⟩, h.c.ext h2 (SdD.no _ _ (by decide) (by decide))⟩
theorem DXc.pblk {Φ : Who} {B q evs step c0 : Nat} {w : World} {A0 : Option Addr} {cl : List Lc} {gp : Nat} {p : Nat × Nat × Nat} (h : DXc Φ B w q evs step A0 c0 cl (some ⟨gp, 0, none⟩) (some p)) : Blk w gp 213 #[.int .i64 p.1, .int .i64 p.2.1, .int .i64 p.2.2] := by
  obtain ⟨g, e, h1, h2⟩ := h.ptr
  simp only [Option.some.injEq, Addr.mk.injEq, and_true] at e
  subst e
  exact h2.1
theorem ptr_any {a : Dq} (h : a.ok) {pt : Option (Nat × Nat × Nat)} (hp : ∀ p, pt = some p → ∃ (x : Ls) (t : List En), a.ls[p.1]? = some x ∧ x.tabs[p.2.1]? = some t ∧ p.2.2 < t.length) : ({ a with ptr := pt } : Dq).ok :=
  ⟨h.e1, h.e4, h.s3, h.n4, h.m16, h.t7, h.f0, h.wf, h.z0, hp⟩
theorem write_ok {a : Dq} (h : a.ok) {i k z : Nat} {x : Ls} {t : List En} {e : En} (hx : a.ls[i]? = some x) (ht : x.tabs[k]? = some t) (hz : z < t.length) (he : e.wf) : ({ a with ls := a.ls.set i { x with tabs := x.tabs.set k (t.set z e) }, ptr := if z + 1 = t.length then none else some (i, k, z + 1) } : Dq).ok := by
  have h1 := tab_ok h (s := a.step) (t' := t.set z e) hx ht (by rw [List.length_set]; exact h.t7 x (List.mem_of_getElem? hx) t (List.mem_of_getElem? ht)) (fun y hy => by
    rcases mem_set_two hy with h1 | rfl
    · exact h.wf x (List.mem_of_getElem? hx) t (List.mem_of_getElem? ht) y h1
    · exact he) h.s3 (fun h0 => by rw [h.z0 h0] at hx; simp at hx) (by rw [List.length_set]; exact Nat.le_refl _)
  refine ptr_any h1 fun p hp => ?_
  split at hp
  · cases hp
  · injection hp with hp
    subst hp
    refine ⟨{ x with tabs := x.tabs.set k (t.set z e) }, t.set z e, ?_, ?_, ?_⟩
    · show (a.ls.set i _)[i]? = _
      rw [List.getElem?_set_self (List.getElem?_eq_some_iff.1 hx).1]
    · show (x.tabs.set k _)[k]? = _
      rw [List.getElem?_set_self (List.getElem?_eq_some_iff.1 ht).1]
    · show z + 1 < (t.set z e).length
      rw [List.length_set]
      omega
theorem write_none {Φ : Who} {B q : Nat} {w : World} {a : Dq} (h : DX Φ B w q a) (hN : Nu Φ w) (c : Cm) (hp : a.ptr = none) : Calls Try.prog 96 #[.pointer (some ⟨q, 0, none⟩), c.val] w (AnsP Φ B w q (writeDX a c).1 [] (writeDX a c).2) := by
  rw [writeX_none hp]
  have HD := Lib.hid h
  have HN := Lib.hid hN
  obtain ⟨hok, A0, c0, cl, P, hab, hX⟩ := h
  rw [hp] at hX
  obtain rfl : P = none := hX.ptr
  have hb := bl1 w (.cells c.cs.toArray 35)
  have hdc := (hX.below hb).cells
  clear hX hok hab hN hp
  go_enter Try.func96, Try.ntmps96
  go_wp2_with fail
  go_ret2
  exact AnsP.stay HD.out HN.out hb
set_option maxRecDepth 100000 in
set_option maxHeartbeats 8000000 in
theorem write_some {Φ : Who} {B q : Nat} {w : World} {a : Dq} (h : DX Φ B w q a) (hN : Nu Φ w) (c : Cm) (hc : c.wf) (p : Nat × Nat × Nat) (hp : a.ptr = some p) : Calls Try.prog 96 #[.pointer (some ⟨q, 0, none⟩), c.val] w (AnsP Φ B w q (writeDX a c).1 [] (writeDX a c).2) := by
  have HD := Lib.hid h
  have HN := Lib.hid hN
  obtain ⟨hok, A0, c0, cl, P, hab, hX⟩ := h
  have HOK := Lib.hid hok
  have HAB := Lib.hid hab
  obtain ⟨i, k, z⟩ := p
  obtain ⟨xa, ta, hxa, hta, hza⟩ := hok.pp _ hp
  have hxa : a.ls[i]? = some xa := hxa
  have hta : xa.tabs[k]? = some ta := hta
  have hza : z < ta.length := hza
  rw [← hab] at hxa
  obtain ⟨x, hx, rfl⟩ : ∃ x, cl[i]? = some x ∧ x.ab = xa := by
    unfold abs at hxa
    rw [List.getElem?_map] at hxa
    cases hq : cl[i]? with
    | none => rw [hq] at hxa; cases hxa
    | some x => rw [hq] at hxa; injection hxa with h1; exact ⟨x, rfl, h1⟩
  obtain ⟨t, ht, rfl⟩ : ∃ t, x.tabs[k]? = some t ∧ t.es = ta := by
    unfold Lc.ab at hta
    simp only [List.getElem?_map] at hta
    cases hq : x.tabs[k]? with
    | none => rw [hq] at hta; cases hta
    | some t => rw [hq] at hta; injection hta with h1; exact ⟨t, rfl, h1⟩
  rw [hp] at hX
  obtain ⟨gp, rfl, hgpB, hgp⟩ := hX.ptr
  have hil : i < cl.length := (List.getElem?_eq_some_iff.1 hx).1
  have hkl : k < x.tabs.length := (List.getElem?_eq_some_iff.1 ht).1
  obtain ⟨g, o, rfl⟩ := hX.ad hil
  obtain ⟨gt, ot, hxA⟩ := (hX.tab i x hx).1.at_ (by omega)
  obtain ⟨ge, oe, htA⟩ := (hX.ent i x k t hx ht).1.at_ (by omega)
  obtain ⟨e, he⟩ : ∃ e, t.es[z]? = some e := ⟨_, List.getElem?_eq_getElem hza⟩
  have hn4 := hok.n4
  rw [← hab, abs_len] at hn4
  have H4 := Lib.hid hn4
  have H16 : Hid (∀ (j : Nat) (y : Lc), cl[j]? = some y → y.tabs.length ≤ 16) := Lib.hid fun j y hy => by
    have h1 := many_get _ _ _ (abs_get hy)
    rw [hab] at h1
    have h2 := hok.m16
    have h3 : y.ab.tabs.length = y.tabs.length := by simp [Lc.ab]
    omega
  have hE : writeDX a c = writeT a (abs cl) x.ab t.es e i k z c := by
    rw [writeX_some hp (by rw [← hab]; exact hxa) hta he, hab]
  have HE := Lib.hid hE
  have HEM : Hid (∀ r : Dq × Int, writeDX a c = r → ∀ e w', AnsP Φ B w q r.1 [] r.2 e w' → AnsP Φ B w q (writeDX a c).1 [] (writeDX a c).2 e w') := Lib.hid fun r h e w' h2 => by rw [h]; exact h2
  have HX := Lib.hid hx
  have HT := Lib.hid ht
  have HXA := Lib.hid hxA
  have HTA := Lib.hid htA
  have hxm : x.ab ∈ a.ls := by rw [← hab]; exact List.mem_of_getElem? (abs_get hx)
  have htm := List.mem_of_getElem? (ab_tab ht)
  have hm7 := hok.t7 _ hxm _ htm
  have hwf := hok.wf _ hxm _ htm
  have HWF : Hid (∀ e ∈ t.es, e.wf) := Lib.hid hwf
  have hew := hwf e (List.mem_of_getElem? he)
  have hes0 := hew.s0
  have hes1 := hew.s1
  have hk16 := H16.out i x hx
  have hb := bl1 w (.cells c.cs.toArray 35)
  have C0 := Lib.hid (DSC.box (a := a) hX hN c)
  have hdc := (hX.below hb).cells
  obtain ⟨n, hnn⟩ : ∃ n, cl.length = n := ⟨_, rfl⟩
  have HL := Lib.hid hnn
  obtain ⟨nt, hnt⟩ : ∃ nt, x.tabs.length = nt := ⟨_, rfl⟩
  have HNT := Lib.hid hnt
  obtain ⟨m, hm⟩ : ∃ m, t.es.length = m := ⟨_, rfl⟩
  have HMT := Lib.hid hm
  obtain ⟨on, hon⟩ : ∃ on, x.on = on := ⟨_, rfl⟩
  have HON : Hid (x.ab.on = on) := Lib.hid (by rw [← hon]; rfl)
  obtain ⟨sz, hsz⟩ : ∃ sz, e.size = sz := ⟨_, rfl⟩
  have HSZ := Lib.hid hsz
  rw [hnn] at hdc hil
  rw [hnt] at hkl hk16
  rw [hm] at hza hm7
  rw [hsz] at hes0 hes1
  have HZM := Lib.hid hza
  have ha0 := hc.h0.1
  have ha1 := hc.h0.2
  have HCW : Hid ((En.mk c.a0 c.a1 c.w).wf) := Lib.hid ⟨hc.h0.1, hc.h0.2, hc.h1.1, hc.h1.2, hc.w0, hc.w1⟩
  obtain ⟨v0, hv0⟩ : ∃ v0, c.a0 - sz = v0 := ⟨_, rfl⟩
  have hv0b : -256 ≤ v0 ∧ v0 ≤ 256 := by omega
  have hwa : IntKind.i64.wrap c.a0 = c.a0 := IntWalk.i64_in _ (by omega)
  have hws : IntKind.i64.wrap sz = sz := IntWalk.i64_in _ (by omega)
  have hwv : IntKind.i64.wrap v0 = v0 := IntWalk.i64_in _ (by omega)
  have HV0 : Hid (c.a0 - e.size = v0) := Lib.hid (by rw [hsz]; exact hv0)
  have hiI : (i : Int) < n := by omega
  have hkI : (k : Int) < nt := by omega
  have hzI : (z : Int) < m := by omega
  have hm7I : (m : Int) ≤ 7 := by omega
  have HE0 := Lib.hid he
  clear hX hok hab hN hp hx ht hxa hta hxA htA he hE hnn hnt hm hon hsz hxm htm hwf hew hn4 hgp hgpB
  go_enter Try.func96, Try.ntmps96
  go_upto_region 3 with fail
  refine wp_named fun W hW => ?_
  have C1 := Lib.hid (show DSC Φ B q a.evs a.step (some ⟨g, o, none⟩) c0 cl (some ⟨gp, 0, none⟩) (some (i, k, z)) w w.heap.size c W by subst hW; exact C0.out)
  have hbW : Below w.heap.size w W := by subst hW; exact hb
  clear hW hdc C0
  have RD := C1.out.d.x.blk.rule
  rw [HL.out] at RD
  have RP := C1.out.d.x.pblk.rule
  have RC := C1.out.c.1.rule
  have RL := C1.out.d.x.rl.row.rule (lcells_at HX.out (j := 1) rfl)
  have RO := C1.out.d.x.rl.row.rule (lcells_at HX.out (j := 6) rfl)
  rw [← Nat.add_assoc] at RL RO
  have RT := C1.out.d.x.rl.tab i x HX.out
  rw [HXA.out] at RT RL
  have RT := Rd.rule RT (tcells_at HT.out)
  have RE := C1.out.d.x.rl.ent i x k t HX.out HT.out
  rw [HTA.out] at RE RT
  have RE := Rd.rule RE (ecells_at HE0.out (j := 0) rfl)
  rw [Nat.add_zero, HSZ.out] at RE
  rw [HNT.out] at RL
  rw [HMT.out] at RT
  rw [show x.on = on from HON.out] at RO
  refine wp_region_c (fun w' => Below W.heap.size W w') (by kernel_rfl) (by kernel_rfl) ((Below.refl _ _).drew) ?_
  repeat (first
    | (refine wpL_skip (by rfl) ?_; try simp only [Act.put, List.setIfInBounds_toArray, List.set_cons_zero, List.set_cons_succ, Nat.reduceAdd])
    | (refine wpL_val (v := ?_) (by rfl) ?_ ?_; rotate_left; · (intro w' hS; go_simp; first | done | with_reducible rfl)
       try simp only [Act.put, List.setIfInBounds_toArray, List.set_cons_zero, List.set_cons_succ, Nat.reduceAdd]))
  refine wpL_done (fun w9 hS => ?_)
  go_wp2_with fail
  refine wp_region_c (fun w' => Below W.heap.size W w') (by kernel_rfl) (by kernel_rfl) (hS.drew) ?_
  repeat (first
    | (refine wpL_skip (by rfl) ?_; try simp only [Act.put, List.setIfInBounds_toArray, List.set_cons_zero, List.set_cons_succ, Nat.reduceAdd])
    | (refine wpL_val (v := ?_) (by rfl) ?_ ?_; rotate_left; · (intro w' hS; go_simp; first | done | with_reducible rfl)
       try simp only [Act.put, List.setIfInBounds_toArray, List.set_cons_zero, List.set_cons_succ, Nat.reduceAdd]))
  refine wpL_done (fun w8 hS => ?_)
  go_wp2_with fail
  refine wp_region_c (fun w' => Below W.heap.size W w') (by kernel_rfl) (by kernel_rfl) (hS.drew) ?_
  repeat (first
    | (refine wpL_skip (by rfl) ?_; try simp only [Act.put, List.setIfInBounds_toArray, List.set_cons_zero, List.set_cons_succ, Nat.reduceAdd])
    | (refine wpL_val (v := ?_) (by rfl) ?_ ?_; rotate_left; · (intro w' hS; go_simp; first | done | with_reducible rfl)
       try simp only [Act.put, List.setIfInBounds_toArray, List.set_cons_zero, List.set_cons_succ, Nat.reduceAdd]))
  refine wpL_done (fun w7 hS => ?_)
  have h7 := hS
  go_wp2_with fail
  go_loopw [60, 8] (fun iv mv wr => ∃ j : Nat, j ≤ m ∧ iv = .int .i64 j ∧ mv = .int .i64 (v0 + sumE (t.es.take j)) ∧ Below W.heap.size W wr) (fun iv _ _ => m - (intOf iv).toNat)
  case atStart => exact ⟨0, Nat.zero_le _, rfl, by simp [sumE], h7⟩
  case round =>
    obtain ⟨j, hj, rfl, rfl, hbr⟩ := hrel
    by_cases hlt : j < m
    · have hltI : (j : Int) < m := by omega
      obtain ⟨y, hy⟩ : ∃ y, t.es[j]? = some y := ⟨_, List.getElem?_eq_getElem (by rw [HMT.out]; exact hlt)⟩
      have hXr := C1.out.d.x.below hbr
      have r0 := hXr.ecell HX.out HT.out HTA.out hy 0 _ rfl
      have r1 := hXr.ecell HX.out HT.out HTA.out hy 1 _ rfl
      have r2 := hXr.ecell HX.out HT.out HTA.out hy 2 _ rfl
      rw [Nat.add_zero] at r0
      have hsum := sumE_take _ _ _ hy
      have hyw := HWF.out y (List.mem_of_getElem? hy)
      have hy0 := hyw.s0
      have hy1 := hyw.s1
      have hsb := sumE_le (t.es.take j) fun e he => HWF.out e (List.mem_of_mem_take he)
      have hlb : (t.es.take j).length ≤ 7 := by rw [List.length_take, HMT.out]; omega
      obtain ⟨ysz, hysz⟩ : ∃ ysz, y.size = ysz := ⟨_, rfl⟩
      obtain ⟨s0, hs0⟩ : ∃ s0, sumE (t.es.take j) = s0 := ⟨_, rfl⟩
      obtain ⟨v1, hv1⟩ : ∃ v1, v0 + s0 = v1 := ⟨_, rfl⟩
      obtain ⟨v2, hv2⟩ : ∃ v2, v1 + ysz = v2 := ⟨_, rfl⟩
      rw [hysz] at r0 hy0 hy1
      rw [hs0, hysz] at hsum
      rw [hs0] at hsb
      have FF : Hid (∀ w', Below W.heap.size W w' → ∃ j' : Nat, j' ≤ m ∧ Value.int .i64 ((j : Int) + 1) = .int .i64 j' ∧ Value.int .i64 v2 = .int .i64 (v0 + sumE (t.es.take j')) ∧ Below W.heap.size W w') := Lib.hid fun w' h => ⟨j + 1, by omega, by simp, by rw [hsum, ← hv2, ← hv1, Int.add_assoc], h⟩
      have hwy : IntKind.i64.wrap ysz = ysz := IntWalk.i64_in _ (by omega)
      have hw2 : IntKind.i64.wrap v2 = v2 := IntWalk.i64_in _ (by omega)
      rw [hs0, hv1]
      clear hXr hsum hyw hsb hlb hysz hs0 hv1 hy hy0 hy1
      go_upto_region 9 with fail
      refine wp_named fun W2 hW2 => ?_
      obtain ⟨BL, hbW2⟩ := blk1 (c1 := #[.int .u8 ysz, .int .u8 y.area, .int .u32 y.pl]) hW2
      have bl := BL.cell
      have F2 := Lib.hid (FF.out W2 (hbr.trans (hbW2.mono hbr.size)))
      clear hW2 r0 r1 r2 hbW2 FF RC RD RP RL RT RE RO
      go_wp2_with fail
      clear bl
      go_roundw
      case rel => exact F2.out
      case measure => simp [intOf]; omega
    · obtain rfl : m = j := by omega
      have hmm : sumE (t.es.take m) = sumE t.es := by rw [List.take_of_length_le (by rw [HMT.out]; exact Nat.le_refl _)]
      rw [hmm]
      obtain ⟨v, hv⟩ : ∃ v, v0 + sumE t.es = v := ⟨_, rfl⟩
      have HV : Hid (c.a0 - e.size + sumE t.es = v) := Lib.hid (by rw [HV0.out]; exact hv)
      rw [hv]
      have rc := RC wr hbr
      have rd := RD wr hbr
      have ro := RO wr hbr
      have hb1 := hbW.trans (hbr.mono hbW.size)
      clear hmm hv
      by_cases ha : c.a0 = 0
      · have d1 : (c.a0 == 0) = true := by rw [ha]; rfl
        have HA := Lib.hid ha
        clear ha hv0
        have FF := Lib.hid (HEM.out (a, 1) (by rw [HE.out]; unfold writeT; rw [if_pos (.inl HA.out)]) _ wr (AnsP.stay (E := 1) HD.out HN.out hb1))
        go_wp2_with fail
        go_ret2
        exact FF.out
      · have d1 : (c.a0 == 0) = false := beq_eq_false_iff_ne.2 ha
        by_cases h7v : 7 < v
        · have d2 : decide (7 < v) = true := decide_eq_true h7v
          have FF := Lib.hid (HEM.out (a, 1) (by rw [HE.out]; unfold writeT; rw [if_pos (.inr (by rw [HV.out]; exact h7v))]) _ wr (AnsP.stay (E := 1) HD.out HN.out hb1))
          go_wp2_with fail
          go_ret2
          exact FF.out
        · have d2 : decide (7 < v) = false := decide_eq_false h7v
          have HNB : Hid (¬ (c.a0 = 0 ∨ 7 < c.a0 - e.size + sumE t.es)) := Lib.hid (by rw [HV.out]; exact fun h => h.elim ha h7v)
          cases on with
          | true =>
            have FF := Lib.hid (HEM.out (a, 110) (by rw [HE.out]; unfold writeT; rw [if_neg HNB.out, HON.out]; rfl) _ wr (AnsP.stay (E := 110) HD.out HN.out hb1))
            go_wp2_with fail
            go_ret2
            exact FF.out
          | false =>
            have HEE : Hid (writeDX a c = ({ a with ls := (abs cl).set i { x.ab with tabs := x.ab.tabs.set k (t.es.set z ⟨c.a0, c.a1, c.w⟩) }, ptr := if z + 1 = t.es.length then none else some (i, k, z + 1) }, 0)) := Lib.hid (by
              rw [HE.out]
              unfold writeT
              rw [if_neg HNB.out, if_neg (by rw [HON.out]; decide)])
            have HOK2 : Hid (({ a with ls := (abs cl).set i { x.ab with tabs := x.ab.tabs.set k (t.es.set z ⟨c.a0, c.a1, c.w⟩) }, ptr := if z + 1 = t.es.length then none else some (i, k, z + 1) } : Dq).ok) := Lib.hid (by
              rw [HAB.out]
              exact write_ok HOK.out (by rw [← HAB.out]; exact abs_get HX.out) (ab_tab HT.out) (by rw [HMT.out]; exact HZM.out) HCW.out)
            have C9 := Lib.hid (C1.out.below hbr)
            have RC9 : ∀ s w', (fun s w' => DSC Φ B q a.evs a.step (some ⟨g, o, none⟩) c0 (if s = 0 then cl else cl.set i { x with tabs := x.tabs.set k { t with es := t.es.set z ⟨c.a0, c.a1, c.w⟩ } }) (some ⟨gp, 0, none⟩) (some (i, k, z)) w w.heap.size c w') s w' → ((∀ i, w'.cell? ⟨w.heap.size, i, none⟩ = c.cs.toArray[i]?) ∧ (∀ i, w'.cell? ⟨q, i, none⟩ = (#[.int .i64 a.evs, .int .i64 a.step, .slice (some ⟨g, o, none⟩) n c0, .pointer (some ⟨gp, 0, none⟩)] : Array Value)[i]?) ∧ (∀ j, w'.cell? ⟨gp, j, none⟩ = (#[.int .i64 i, .int .i64 k, .int .i64 z] : Array Value)[j]?)) := fun s w' h => ⟨h.cells, by
              have h1 := h.d.x.cells
              have hl : (if s = 0 then cl else cl.set i { x with tabs := x.tabs.set k { t with es := t.es.set z ⟨c.a0, c.a1, c.w⟩ } }).length = n := by split <;> simp [HL.out]
              rw [hl] at h1
              exact h1, h.d.x.pblk.cell⟩
            clear RD RP RC RL RT RE RO
            go_wp2_with fail
            refine wp_region_s [18] (fun s w' => DSC Φ B q a.evs a.step (some ⟨g, o, none⟩) c0 (if s = 0 then cl else cl.set i { x with tabs := x.tabs.set k { t with es := t.es.set z ⟨c.a0, c.a1, c.w⟩ } }) (some ⟨gp, 0, none⟩) (some (i, k, z)) w w.heap.size c w') (by kernel_rfl) (by kernel_rfl) (C9.out.below (Below.refl _ _).drew) ?_
            first
              | (refine wpS_skip (by rfl) (by rfl) ?_; try simp only [Act.put, List.setIfInBounds_toArray, List.set_cons_zero, List.set_cons_succ, Nat.reduceAdd])
              | (refine wpS_val (v := ?_) RC9 (by rfl) (by rfl) ?_ ?_; rotate_left; · (intro w' hS; go_simp; first | done | with_reducible rfl)
                 try simp only [Act.put, List.setIfInBounds_toArray, List.set_cons_zero, List.set_cons_succ, Nat.reduceAdd])
            first
              | (refine wpS_skip (by rfl) (by rfl) ?_; try simp only [Act.put, List.setIfInBounds_toArray, List.set_cons_zero, List.set_cons_succ, Nat.reduceAdd])
              | (refine wpS_val (v := ?_) RC9 (by rfl) (by rfl) ?_ ?_; rotate_left; · (intro w' hS; go_simp; first | done | with_reducible rfl)
                 try simp only [Act.put, List.setIfInBounds_toArray, List.set_cons_zero, List.set_cons_succ, Nat.reduceAdd])
            first
              | (refine wpS_skip (by rfl) (by rfl) ?_; try simp only [Act.put, List.setIfInBounds_toArray, List.set_cons_zero, List.set_cons_succ, Nat.reduceAdd])
              | (refine wpS_val (v := ?_) RC9 (by rfl) (by rfl) ?_ ?_; rotate_left; · (intro w' hS; go_simp; first | done | with_reducible rfl)
                 try simp only [Act.put, List.setIfInBounds_toArray, List.set_cons_zero, List.set_cons_succ, Nat.reduceAdd])
            first
              | (refine wpS_skip (by rfl) (by rfl) ?_; try simp only [Act.put, List.setIfInBounds_toArray, List.set_cons_zero, List.set_cons_succ, Nat.reduceAdd])
              | (refine wpS_val (v := ?_) RC9 (by rfl) (by rfl) ?_ ?_; rotate_left; · (intro w' hS; go_simp; first | done | with_reducible rfl)
                 try simp only [Act.put, List.setIfInBounds_toArray, List.set_cons_zero, List.set_cons_succ, Nat.reduceAdd])
            first
              | (refine wpS_skip (by rfl) (by rfl) ?_; try simp only [Act.put, List.setIfInBounds_toArray, List.set_cons_zero, List.set_cons_succ, Nat.reduceAdd])
              | (refine wpS_val (v := ?_) RC9 (by rfl) (by rfl) ?_ ?_; rotate_left; · (intro w' hS; go_simp; first | done | with_reducible rfl)
                 try simp only [Act.put, List.setIfInBounds_toArray, List.set_cons_zero, List.set_cons_succ, Nat.reduceAdd])
            first
              | (refine wpS_skip (by rfl) (by rfl) ?_; try simp only [Act.put, List.setIfInBounds_toArray, List.set_cons_zero, List.set_cons_succ, Nat.reduceAdd])
              | (refine wpS_val (v := ?_) RC9 (by rfl) (by rfl) ?_ ?_; rotate_left; · (intro w' hS; go_simp; first | done | with_reducible rfl)
                 try simp only [Act.put, List.setIfInBounds_toArray, List.set_cons_zero, List.set_cons_succ, Nat.reduceAdd])
            first
              | (refine wpS_skip (by rfl) (by rfl) ?_; try simp only [Act.put, List.setIfInBounds_toArray, List.set_cons_zero, List.set_cons_succ, Nat.reduceAdd])
              | (refine wpS_val (v := ?_) RC9 (by rfl) (by rfl) ?_ ?_; rotate_left; · (intro w' hS; go_simp; first | done | with_reducible rfl)
                 try simp only [Act.put, List.setIfInBounds_toArray, List.set_cons_zero, List.set_cons_succ, Nat.reduceAdd])
            first
              | (refine wpS_skip (by rfl) (by rfl) ?_; try simp only [Act.put, List.setIfInBounds_toArray, List.set_cons_zero, List.set_cons_succ, Nat.reduceAdd])
              | (refine wpS_val (v := ?_) RC9 (by rfl) (by rfl) ?_ ?_; rotate_left; · (intro w' hS; go_simp; first | done | with_reducible rfl)
                 try simp only [Act.put, List.setIfInBounds_toArray, List.set_cons_zero, List.set_cons_succ, Nat.reduceAdd])
            first
              | (refine wpS_skip (by rfl) (by rfl) ?_; try simp only [Act.put, List.setIfInBounds_toArray, List.set_cons_zero, List.set_cons_succ, Nat.reduceAdd])
              | (refine wpS_val (v := ?_) RC9 (by rfl) (by rfl) ?_ ?_; rotate_left; · (intro w' hS; go_simp; first | done | with_reducible rfl)
                 try simp only [Act.put, List.setIfInBounds_toArray, List.set_cons_zero, List.set_cons_succ, Nat.reduceAdd])
            first
              | (refine wpS_skip (by rfl) (by rfl) ?_; try simp only [Act.put, List.setIfInBounds_toArray, List.set_cons_zero, List.set_cons_succ, Nat.reduceAdd])
              | (refine wpS_val (v := ?_) RC9 (by rfl) (by rfl) ?_ ?_; rotate_left; · (intro w' hS; go_simp; first | done | with_reducible rfl)
                 try simp only [Act.put, List.setIfInBounds_toArray, List.set_cons_zero, List.set_cons_succ, Nat.reduceAdd])
            first
              | (refine wpS_skip (by rfl) (by rfl) ?_; try simp only [Act.put, List.setIfInBounds_toArray, List.set_cons_zero, List.set_cons_succ, Nat.reduceAdd])
              | (refine wpS_val (v := ?_) RC9 (by rfl) (by rfl) ?_ ?_; rotate_left; · (intro w' hS; go_simp; first | done | with_reducible rfl)
                 try simp only [Act.put, List.setIfInBounds_toArray, List.set_cons_zero, List.set_cons_succ, Nat.reduceAdd])
            first
              | (refine wpS_skip (by rfl) (by rfl) ?_; try simp only [Act.put, List.setIfInBounds_toArray, List.set_cons_zero, List.set_cons_succ, Nat.reduceAdd])
              | (refine wpS_val (v := ?_) RC9 (by rfl) (by rfl) ?_ ?_; rotate_left; · (intro w' hS; go_simp; first | done | with_reducible rfl)
                 try simp only [Act.put, List.setIfInBounds_toArray, List.set_cons_zero, List.set_cons_succ, Nat.reduceAdd])
            first
              | (refine wpS_skip (by rfl) (by rfl) ?_; try simp only [Act.put, List.setIfInBounds_toArray, List.set_cons_zero, List.set_cons_succ, Nat.reduceAdd])
              | (refine wpS_val (v := ?_) RC9 (by rfl) (by rfl) ?_ ?_; rotate_left; · (intro w' hS; go_simp; first | done | with_reducible rfl)
                 try simp only [Act.put, List.setIfInBounds_toArray, List.set_cons_zero, List.set_cons_succ, Nat.reduceAdd])
            first
              | (refine wpS_skip (by rfl) (by rfl) ?_; try simp only [Act.put, List.setIfInBounds_toArray, List.set_cons_zero, List.set_cons_succ, Nat.reduceAdd])
              | (refine wpS_val (v := ?_) RC9 (by rfl) (by rfl) ?_ ?_; rotate_left; · (intro w' hS; go_simp; first | done | with_reducible rfl)
                 try simp only [Act.put, List.setIfInBounds_toArray, List.set_cons_zero, List.set_cons_succ, Nat.reduceAdd])
            first
              | (refine wpS_skip (by rfl) (by rfl) ?_; try simp only [Act.put, List.setIfInBounds_toArray, List.set_cons_zero, List.set_cons_succ, Nat.reduceAdd])
              | (refine wpS_val (v := ?_) RC9 (by rfl) (by rfl) ?_ ?_; rotate_left; · (intro w' hS; go_simp; first | done | with_reducible rfl)
                 try simp only [Act.put, List.setIfInBounds_toArray, List.set_cons_zero, List.set_cons_succ, Nat.reduceAdd])
            first
              | (refine wpS_skip (by rfl) (by rfl) ?_; try simp only [Act.put, List.setIfInBounds_toArray, List.set_cons_zero, List.set_cons_succ, Nat.reduceAdd])
              | (refine wpS_val (v := ?_) RC9 (by rfl) (by rfl) ?_ ?_; rotate_left; · (intro w' hS; go_simp; first | done | with_reducible rfl)
                 try simp only [Act.put, List.setIfInBounds_toArray, List.set_cons_zero, List.set_cons_succ, Nat.reduceAdd])
            first
              | (refine wpS_skip (by rfl) (by rfl) ?_; try simp only [Act.put, List.setIfInBounds_toArray, List.set_cons_zero, List.set_cons_succ, Nat.reduceAdd])
              | (refine wpS_val (v := ?_) RC9 (by rfl) (by rfl) ?_ ?_; rotate_left; · (intro w' hS; go_simp; first | done | with_reducible rfl)
                 try simp only [Act.put, List.setIfInBounds_toArray, List.set_cons_zero, List.set_cons_succ, Nat.reduceAdd])
            first
              | (refine wpS_skip (by rfl) (by rfl) ?_; try simp only [Act.put, List.setIfInBounds_toArray, List.set_cons_zero, List.set_cons_succ, Nat.reduceAdd])
              | (refine wpS_val (v := ?_) RC9 (by rfl) (by rfl) ?_ ?_; rotate_left; · (intro w' hS; go_simp; first | done | with_reducible rfl)
                 try simp only [Act.put, List.setIfInBounds_toArray, List.set_cons_zero, List.set_cons_succ, Nat.reduceAdd])
            refine wpS_step (v := undef) 0 (by kernel_rfl) rfl (by intro p hp; first | omega | (obtain rfl : p = 0 := (by omega); exact ⟨_, rfl, by kernel_rfl⟩)) (of_decide_eq_true (by kernel_rfl)) (fun w' hS => .inl ⟨by rfl, ?_⟩) (fun _ => rfl) ?_
            · have hS' : DSC Φ B q a.evs a.step (some ⟨g, o, none⟩) c0 cl (some ⟨gp, 0, none⟩) (some (i, k, z)) w w.heap.size c w' := hS
              have hrow := (hS'.d.x.ent i x k t HX.out HT.out).1
              rw [HTA.out, HMT.out] at hrow
              refine wp_stO 76 (.tmp 101) (.tmp 100) rfl (.agg #[.int .u8 c.a0, .int .u8 c.a1, .int .u32 c.w]) (z * 3) rfl rfl hrow (by simp [Value.cells]; omega) (by kernel_rfl) (by simp [Value.cells, Value.oneCell']) (fun w'' h2 h3 => ⟨rfl, ?_⟩)
              exact hS'.setW H4.out H16.out HX.out HT.out (e := ⟨c.a0, c.a1, c.w⟩) (by rw [HMT.out]; exact HZM.out) HTA.out (by rw [HTA.out, HMT.out, Nat.add_zero]; exact h2) h3
            try simp only [Act.put, List.setIfInBounds_toArray, List.set_cons_zero, List.set_cons_succ, Nat.reduceAdd]
            refine wpS_done (by kernel_rfl) (fun w10 hS => ?_)
            have hS : DSC Φ B q a.evs a.step (some ⟨g, o, none⟩) c0 (cl.set i { x with tabs := x.tabs.set k { t with es := t.es.set z ⟨c.a0, c.a1, c.w⟩ } }) (some ⟨gp, 0, none⟩) (some (i, k, z)) w w.heap.size c w10 := hS
            have C10 := Lib.hid hS
            have hq10 := (RC9 1 w10 hS).2.1
            have hp10 := (RC9 1 w10 hS).2.2
            have BP := hS.d.x.pblk
            have BQ := hS.d.x.blk
            rw [List.length_set, HL.out] at BQ
            have HPQ : Hid (some q ≠ some gp) := Lib.hid fun h => by
              injection h with h
              rw [h] at BQ
              have := BQ.symm.trans BP
              simp at this
            have BQH := Lib.hid BQ
            clear hS RC9 BQ
            have hmz : z + 1 = m ∨ z + 1 ≠ m := by omega
            obtain ⟨z1, hz1⟩ : ∃ z1, z + 1 = z1 := ⟨_, rfl⟩
            have HZ1 := Lib.hid hz1
            have hz1I : (z : Int) + 1 = z1 := by omega
            have hwz1 : IntKind.i64.wrap (z1 : Int) = z1 := IntWalk.i64_in _ (by omega)
            rw [hz1] at hmz
            clear hz1
            go_upto_region 17 with (refine wpList_stB rfl 3 (.tmp 111) (.tmp 109) rfl (.int .i64 z1) 2 rfl rfl BP (by simp [Value.cells]) (by kernel_rfl) (by simp [Value.cells, Value.oneCell']) ?_; intro w11 B11 g11)
            have B11 : Blk w11 gp 213 #[.int .i64 i, .int .i64 k, .int .i64 z1] := B11
            have BQ11 := BQH.out.grown g11 HPQ.out
            have hp11 := B11.cell
            have hq11 := BQ11.cell
            have M11 := Lib.hid (C10.out.d.x.movP C10.out.d.e.nu (p' := (i, k, z1)) g11 B11)
            clear hp10 hq10 BP g11 B11
            rcases hmz with hmz | hmz
            · subst hmz
              go_wp2_with (refine wpList_stB rfl 162 (.tmp 124) (.const (.pointer none)) rfl (.pointer none) 3 rfl rfl BQ11 (by simp [Value.cells]) (by kernel_rfl) (by simp [Value.cells, Value.oneCell']) ?_; intro w12 B12 g12)
              have F6 : Hid (AnsP Φ B w q (writeDX a c).1 [] (writeDX a c).2 (.returned (.tuple #[.slice none 0 0, .int .i64 0])) w12) := Lib.hid (by
                have B12 : Blk w12 q 164 #[.int .i64 a.evs, .int .i64 a.step, .slice (some ⟨g, o, none⟩) n c0, .pointer none] := B12
                obtain ⟨h1, h2⟩ := M11.out.1.noP M11.out.2.nu g12 (by rw [List.length_set, HL.out]; exact B12)
                exact HEM.out _ HEE.out _ w12 (AnsP.none_ (E := 0) Φ ⟨HOK2.out, _, c0, _, none, tab_abs cl i k _ _ _ x, by
                  show DXc _ _ _ _ _ _ _ _ _ _ (if z + 1 = t.es.length then none else some (i, k, z + 1))
                  rw [HMT.out, if_pos HZ1.out]
                  exact h1⟩ ((C10.out.d.e.trans M11.out.2).trans h2)))
              clear B12 g12 BQ11
              go_ret2
              exact F6.out
            · have d5 : ((z1 : Int) == m) = false := beq_eq_false_iff_ne.2 (by omega)
              have F6 : Hid (AnsP Φ B w q (writeDX a c).1 [] (writeDX a c).2 (.returned (.tuple #[.slice none 0 0, .int .i64 0])) w11) := Lib.hid (by
                exact HEM.out _ HEE.out _ w11 (AnsP.none_ (E := 0) Φ ⟨HOK2.out, _, c0, _, _, tab_abs cl i k _ _ _ x, by
                  show DXc _ _ _ _ _ _ _ _ _ _ (if z + 1 = t.es.length then none else some (i, k, z + 1))
                  rw [HMT.out, HZ1.out, if_neg hmz]
                  exact M11.out.1⟩ (C10.out.d.e.trans M11.out.2)))
              clear hmz
              go_wp2_with fail
              go_ret2
              exact F6.out
theorem writeD_any {Φ : Who} {B q : Nat} {w : World} {a : Dq} (h : DX Φ B w q a) (hN : Nu Φ w) (c : Cm) (hc : c.wf) : Calls Try.prog 96 #[.pointer (some ⟨q, 0, none⟩), c.val] w (AnsP Φ B w q (writeDX a c).1 [] (writeDX a c).2) := by
  cases hp : a.ptr with
  | none => exact write_none h hN c hp
  | some p => exact write_some h hN c hc p hp
end Go.Proofs.Yteecgdbicokgoaa
