/- Daq: AllocEntry. -/
import Derived.Test.YteecgdbicokgoaaGC
namespace Go.Proofs.Yteecgdbicokgoaa
open Go.RowKit
set_option linter.unusedVariables false
set_option linter.unusedSimpArgs false
set_option maxRecDepth 100000
def e0 : En := ⟨0, 0, 0⟩
def entsN (a : Dq) (ls : List Ls) (i k z : Nat) : Dq × Int :=
  if a.step ≠ 2 ∧ a.step ≠ 3 then (a, 90) else
  match tabOf ls i k with
  | none => (a, 1)
  | some (x, t) => if 0 < t.length then (a, 90) else if 7 < z then (a, 20) else ({ a with ls := ls.set i { x with tabs := x.tabs.set k (List.replicate z e0) }, step := 3 }, 0)
/-- AllocEntry. -/
def entsX (a : Dq) (c : Cm) : Dq × Int := entsN a a.ls c.a0.toNat c.a1.toNat c.a2.toNat
section
variable {a : Dq} {ls : List Ls} {i k z : Nat} {x : Ls} {t : List En}
theorem entsN_seq (h : a.step ≠ 2 ∧ a.step ≠ 3) : entsN a ls i k z = (a, 90) := by unfold entsN; rw [if_pos h]
theorem entsN_no (h : ¬ (a.step ≠ 2 ∧ a.step ≠ 3)) (hx : tabOf ls i k = none) : entsN a ls i k z = (a, 1) := by unfold entsN; rw [if_neg h, hx]
theorem entsN_two (h : ¬ (a.step ≠ 2 ∧ a.step ≠ 3)) (hx : tabOf ls i k = some (x, t)) (h0 : 0 < t.length) : entsN a ls i k z = (a, 90) := by unfold entsN; rw [if_neg h, hx]; show (if 0 < t.length then _ else _) = _; rw [if_pos h0]
theorem entsN_full (h : ¬ (a.step ≠ 2 ∧ a.step ≠ 3)) (hx : tabOf ls i k = some (x, t)) (h0 : t.length = 0) (hm : 7 < z) : entsN a ls i k z = (a, 20) := by unfold entsN; rw [if_neg h, hx]; show (if 0 < t.length then _ else if _ then _ else _) = _; rw [if_neg (by omega), if_pos hm]
theorem entsN_yes (h : ¬ (a.step ≠ 2 ∧ a.step ≠ 3)) (hx : tabOf ls i k = some (x, t)) (h0 : t.length = 0) (hm : ¬ 7 < z) : entsN a ls i k z = ({ a with ls := ls.set i { x with tabs := x.tabs.set k (List.replicate z e0) }, step := 3 }, 0) := by unfold entsN; rw [if_neg h, hx]; show (if 0 < t.length then _ else if _ then _ else _) = _; rw [if_neg (by omega), if_neg hm]
theorem mem_set_two {α : Type} {l : List α} {i : Nat} {x y : α} (h : y ∈ l.set i x) : y ∈ l ∨ y = x := List.mem_or_eq_of_mem_set h
/-- A table is another one now. -/
theorem tab_ok {a : Dq} (h : a.ok) {i k s : Nat} {x : Ls} {t t' : List En} (hx : a.ls[i]? = some x) (ht : x.tabs[k]? = some t) (h7 : t'.length ≤ 7) (hw : ∀ e ∈ t', e.wf) (hs : s ≤ 3) (hs0 : s ≠ 0) (hp : t.length ≤ t'.length ) : ({ a with ls := a.ls.set i { x with tabs := x.tabs.set k t' }, step := s } : Dq).ok := by
  have hm : manyT (a.ls.set i { x with tabs := x.tabs.set k t' }) + x.tabs.length = manyT a.ls + x.tabs.length := by
    have := many_set a.ls i x { x with tabs := x.tabs.set k t' } hx
    rwa [show ({ x with tabs := x.tabs.set k t' } : Ls).tabs.length = x.tabs.length from List.length_set] at this
  have hxm := List.mem_of_getElem? hx
  refine ⟨h.e1, h.e4, hs, by show (a.ls.set _ _).length ≤ 4; rw [List.length_set]; exact h.n4, by show manyT (a.ls.set i { x with tabs := x.tabs.set k t' }) ≤ 16; have := h.m16; omega, fun y hy u hu => ?_, fun y hy => ?_, fun y hy u hu => ?_, (fun h => absurd h hs0), fun p hp' => ?_⟩
  · rcases mem_set_two hy with h1 | rfl
    · exact h.t7 y h1 u hu
    · rcases mem_set_two hu with h2 | rfl
      · exact h.t7 x hxm u h2
      · exact h7
  · rcases mem_set_two hy with h1 | rfl
    · exact h.f0 y h1
    · exact h.f0 x hxm
  · rcases mem_set_two hy with h1 | rfl
    · exact h.wf y h1 u hu
    · rcases mem_set_two hu with h2 | rfl
      · exact h.wf x hxm u h2
      · exact hw
  · obtain ⟨y, u, h1, h2, h3⟩ := h.pp p hp'
    by_cases hpi : p.1 = i
    · rw [hpi, hx] at h1
      injection h1 with h1
      subst h1
      by_cases hpk : p.2.1 = k
      · rw [hpk, ht] at h2
        injection h2 with h2
        subst h2
        exact ⟨_, t', by show (a.ls.set i _)[p.1]? = _; rw [hpi, List.getElem?_set_self (List.getElem?_eq_some_iff.1 hx).1], by show (x.tabs.set k t')[p.2.1]? = _; rw [hpk, List.getElem?_set_self (List.getElem?_eq_some_iff.1 ht).1], by omega⟩
      · exact ⟨_, u, by show (a.ls.set i _)[p.1]? = _; rw [hpi, List.getElem?_set_self (List.getElem?_eq_some_iff.1 hx).1], by show (x.tabs.set k t')[p.2.1]? = _; rw [List.getElem?_set_ne (by omega)]; exact h2, h3⟩
    · exact ⟨y, u, by show (a.ls.set i _)[p.1]? = _; rw [List.getElem?_set_ne (by omega)]; exact h1, h2, h3⟩
theorem tab_abs (cl : List Lc) (i k : Nat) (E : Option Addr) (cE : Nat) (es : List En) (x : Lc) : abs (cl.set i { x with tabs := x.tabs.set k ⟨E, cE, es⟩ }) = (abs cl).set i { x.ab with tabs := x.ab.tabs.set k es } := by
  rw [set_abs]
  congr 1
  simp [Lc.ab, Tb.ab, List.map_set]
theorem ecells_rep : ∀ n : Nat, (List.replicate n (Value.agg #[.int .u8 0, .int .u8 0, .int .u32 0]).cells.toList).flatten = ecells (List.replicate n e0)
  | 0 => rfl
  | n + 1 => by
    rw [List.replicate_succ, List.flatten_cons, ecells_rep n, List.replicate_succ]
    rfl
end
theorem ents_end {Φ : Who} {B : Nat} {w w1 w5 w6 : World} {q evs step step' c0 : Nat} {A0 P : Option Addr} {cl : List Lc} {pt : Option (Nat × Nat × Nat)} (h : DXc Φ B w q evs step A0 c0 cl P pt) (hN : Nu Φ w) (h4 : cl.length ≤ 4) (h16 : ∀ (j : Nat) (y : Lc), cl[j]? = some y → y.tabs.length ≤ 16) (hb : Below w.heap.size w w1) {E : Option Addr} {m cE : Nat} (hE : Own w1 w.heap.size 76 3 E m cE (ecells (List.replicate m e0))) {i k : Nat} {x : Lc} {t : Tb} (hx : cl[i]? = some x) (ht : x.tabs[k]? = some t) {g o : Nat} (hA : x.A = some ⟨g, o, none⟩)
    (h5 : Own w5 B 74 1 (some ⟨g, o, none⟩) x.tabs.length x.c (putL (tcells x.tabs) k [.slice E m cE])) (g5 : w1.grownBy w5 (some g)) (g6 : w5.grownBy w6 (some q)) (B6 : Blk w6 q 164 #[.int .i64 evs, .int .i64 step', .slice A0 cl.length c0, .pointer P]) :
    ∃ Φ', DXc Φ' B w6 q evs step' A0 c0 (cl.set i { x with tabs := x.tabs.set k ⟨E, cE, List.replicate m e0⟩ }) P pt ∧ Ext B (SdD q) Φ Φ' w w6 := by
  obtain ⟨Φ', h1, h2⟩ := h.setE hN h4 h16 hb (es := List.replicate m e0) (by simp) hE hx ht hA (by rw [hA, Nat.mul_one, Nat.add_zero]; exact h5) g5
  obtain ⟨h3, h4⟩ := h1.own0 h2.nu g6 (step' := step') (by rw [List.length_set]; exact B6)
  exact ⟨Φ', h3, h2.trans h4⟩
set_option maxRecDepth 100000 in
set_option maxHeartbeats 8000000 in
theorem ents_any {Φ : Who} {B q : Nat} {w : World} {a : Dq} (h : DX Φ B w q a) (hN : Nu Φ w) (c : Cm) (hc : c.wf) : Calls Try.prog 94 #[.pointer (some ⟨q, 0, none⟩), c.val] w (AnsP Φ B w q (entsX a c).1 [] (entsX a c).2) := by
  have HD := Lib.hid h
  have HN := Lib.hid hN
  obtain ⟨hok, A0, c0, cl, P, hab, hX⟩ := h
  have HOK := Lib.hid hok
  have HAB := Lib.hid hab
  have hb := bl1 w (.cells c.cs.toArray 35)
  have HXX := Lib.hid hX
  obtain ⟨i, hi⟩ : ∃ i : Nat, c.a0 = i := ⟨c.a0.toNat, by have := hc.h0.1; omega⟩
  obtain ⟨k, hk⟩ : ∃ k : Nat, c.a1 = k := ⟨c.a1.toNat, by have := hc.h1.1; omega⟩
  obtain ⟨z, hz⟩ : ∃ z : Nat, c.a2 = z := ⟨c.a2.toNat, by have := hc.h2.1; omega⟩
  have hi256 : i < 256 := by have := hc.h0.2; omega
  have hk256 : k < 256 := by have := hc.h1.2; omega
  have hz256 : z < 256 := by have := hc.h2.2; omega
  have hit : c.a0.toNat = i := by omega
  have hkt : c.a1.toNat = k := by omega
  have hzt : c.a2.toNat = z := by omega
  have HI := Lib.hid hi
  have HK := Lib.hid hk
  have HZ := Lib.hid hz
  have hzI : (z : Int) < 256 := by omega
  have hwz : IntKind.i64.wrap (z : Int) = z := IntWalk.i64_in _ (by omega)
  have hn4 := hok.n4
  rw [← hab, abs_len] at hn4
  have H4 := Lib.hid hn4
  have H16 : Hid (∀ (j : Nat) (y : Lc), cl[j]? = some y → y.tabs.length ≤ 16) := Lib.hid fun j y hy => by
    have h1 := many_get _ _ _ (abs_get hy)
    rw [hab] at h1
    have h2 := hok.m16
    have h3 : y.ab.tabs.length = y.tabs.length := by simp [Lc.ab]
    omega
  have hE : entsX a c = entsN a (abs cl) i k z := by
    unfold entsX
    rw [hit, hkt, hzt, ← hab]
  have HE := Lib.hid hE
  have HEM : Hid (∀ r : Dq × Int, entsX a c = r → ∀ e w', AnsP Φ B w q r.1 [] r.2 e w' → AnsP Φ B w q (entsX a c).1 [] (entsX a c).2 e w') := Lib.hid fun r h e w' h2 => by rw [h]; exact h2
  have hs3 := hok.s3
  obtain ⟨s, hs⟩ : ∃ s : Int, (a.step : Int) = s := ⟨_, rfl⟩
  have HS := Lib.hid hs
  have hs03 : 0 ≤ s ∧ s ≤ 3 := by omega
  obtain ⟨n, hnn⟩ : ∃ n, cl.length = n := ⟨_, rfl⟩
  have HL := Lib.hid hnn
  have RD := (hX.below hb).blk.rule
  rw [hnn, hs] at RD
  have RC : ∀ w', Below (w.alloc (.cells c.cs.toArray 35)).heap.size (w.alloc (.cells c.cs.toArray 35)) w' → ∀ i, w'.cell? ⟨w.heap.size, i, none⟩ = c.cs.toArray[i]? := (Blk.new w 35 c.cs.toArray).rule
  rcases (by
      by_cases h : ∃ x, cl[i]? = some x ∧ k < x.tabs.length
      · exact .inl h
      · exact .inr fun x hx => Nat.le_of_not_lt fun hlt => h ⟨x, hx, hlt⟩ : (∃ x, cl[i]? = some x ∧ k < x.tabs.length) ∨ ∀ x, cl[i]? = some x → x.tabs.length ≤ k) with hyes | hno
  · obtain ⟨x, hx, hkx⟩ := hyes
    obtain ⟨t, ht⟩ : ∃ t, x.tabs[k]? = some t := ⟨_, List.getElem?_eq_getElem hkx⟩
    obtain ⟨gt, ot, hxA⟩ := (hX.tab i x hx).1.at_ (by omega)
    have L := Lib.hid (table_yes (hX.below hb) hi256 hk256 hx hkx hxA)
    have RT := (hX.below hb).tcell hx hxA ht
    have HX := Lib.hid hx
    have HT := Lib.hid ht
    have HXA := Lib.hid hxA
    have HAX : Hid ((abs cl)[i]? = some x.ab) := Lib.hid (abs_get hx)
    have HTO : Hid (tabOf (abs cl) i k = some (x.ab, t.es)) := Lib.hid (tabOf_some (abs_get hx) (ab_tab ht))
    obtain ⟨nt, hnt⟩ : ∃ nt, x.tabs.length = nt := ⟨_, rfl⟩
    have HNT := Lib.hid hnt
    rw [hnt] at hkx
    obtain ⟨m, hm⟩ : ∃ m, t.es.length = m := ⟨_, rfl⟩
    have HMT := Lib.hid hm
    rw [hm] at RT
    have hm7 : m ≤ 7 := by
      have h7 := hok.t7 x.ab (by rw [← hab]; exact List.mem_of_getElem? (abs_get hx)) t.es (List.mem_of_getElem? (ab_tab ht))
      omega
    have hm7I : (m : Int) ≤ 7 := by omega
    clear hX hok hab hN hit hkt hzt hi hk hz hE hnn hs hx ht hxA hnt hm hn4 hs3
    go_enter Try.func94, Try.ntmps94
    go_upto_region 1 with fail
    refine wp_named fun W hW => ?_
    have hbW : Below w.heap.size w W := by subst hW; exact hb
    have L : Calls Try.prog 120 #[.pointer (some ⟨q, 0, none⟩), .int .u8 i, .int .u8 k] W fun e w' => e = .returned (.pointer (some ⟨gt, ot + k, none⟩)) ∧ W = w' := by subst hW; exact L.out
    have hcc : ∀ i, W.cell? ⟨w.heap.size, i, none⟩ = c.cs.toArray[i]? := by subst hW; exact RC _ (Below.refl _ _)
    have hdc : ∀ i, W.cell? ⟨q, i, none⟩ = (#[.int .i64 a.evs, .int .i64 s, .slice A0 n c0, .pointer P] : Array Value)[i]? := by subst hW; exact RD _ (Below.refl _ _)
    have RT : W.cell? ⟨gt, ot + k, none⟩ = some (.slice t.A m t.c) := by subst hW; exact RT
    have hi := HI.out
    have hk := HK.out
    have hz := HZ.out
    clear hW RD RC
    rcases (by omega : s = 0 ∨ s = 1 ∨ s = 2 ∨ s = 3) with hsx | hsx | hsx | hsx
    · subst hsx
      have FF := Lib.hid (HEM.out (a, 90) (by rw [HE.out, entsN_seq (by have := HS.out; omega)]) _ W (AnsP.stay (E := 90) HD.out HN.out hbW))
      go_wp2_with fail
      refine L.mono ?_
      rintro e w' ⟨rfl, rfl⟩
      clear L
      go_wp2_with fail
      go_ret2
      exact FF.out
    · subst hsx
      have FF := Lib.hid (HEM.out (a, 90) (by rw [HE.out, entsN_seq (by have := HS.out; omega)]) _ W (AnsP.stay (E := 90) HD.out HN.out hbW))
      go_wp2_with fail
      refine L.mono ?_
      rintro e w' ⟨rfl, rfl⟩
      clear L
      go_wp2_with fail
      go_ret2
      exact FF.out
    · subst hsx
      have HSE : Hid (¬ (a.step ≠ 2 ∧ a.step ≠ 3)) := Lib.hid (by have := HS.out; omega)
      clear HS
      by_cases h0 : 0 < m
      · have d0 : decide ((0 : Int) < m) = true := decide_eq_true (by omega)
        have FF := Lib.hid (HEM.out (a, 90) (by rw [HE.out, entsN_two HSE.out HTO.out (by rw [HMT.out]; exact h0)]) _ W (AnsP.stay (E := 90) HD.out HN.out hbW))
        go_wp2_with fail
        refine L.mono ?_
        rintro e w' ⟨rfl, rfl⟩
        clear L
        go_wp2_with fail
        go_ret2
        exact FF.out
      · obtain rfl : m = 0 := by omega
        by_cases h7 : 7 < z
        · have d1 : decide ((7 : Int) < z) = true := decide_eq_true (by omega)
          have FF := Lib.hid (HEM.out (a, 20) (by rw [HE.out, entsN_full HSE.out HTO.out HMT.out h7]) _ W (AnsP.stay (E := 20) HD.out HN.out hbW))
          go_wp2_with fail
          refine L.mono ?_
          rintro e w' ⟨rfl, rfl⟩
          clear L
          go_wp2_with fail
          go_ret2
          exact FF.out
        · have d1 : decide ((7 : Int) < z) = false := decide_eq_false (by omega)
          have hz7 : z ≤ 7 := by omega
          have HEE := Lib.hid (HE.out.trans (entsN_yes HSE.out HTO.out HMT.out h7))
          have HOK2 : Hid (({ a with ls := (abs cl).set i { x.ab with tabs := x.ab.tabs.set k (List.replicate z e0) }, step := 3 } : Dq).ok) := Lib.hid (by
            rw [HAB.out]
            exact tab_ok HOK.out (s := 3) (by rw [← HAB.out]; exact HAX.out) (ab_tab HT.out) (by simp; omega) (fun e he => by rw [List.eq_of_mem_replicate he]; exact ⟨by decide, by decide, by decide, by decide, by decide, by decide⟩) (by decide) (by decide) (by rw [HMT.out]; exact Nat.zero_le _))
          have hXW := HXX.out.below hbW
          have HDB := Lib.hid hXW.blk
          have hrow := (hXW.tab i x HX.out).1
          rw [HXA.out] at hrow
          rw [HNT.out] at hrow
          have hq41 := own_blk_ne hrow hXW.blk (by decide)
          have HQ : Hid (some q ≠ some gt) := Lib.hid hq41
          clear hXW hq41
          go_wp2_with fail
          refine L.mono ?_
          rintro e w' ⟨rfl, rfl⟩
          clear L
          go_upto_region 11 with (first
            | (refine wpList_mk rfl (.tmp 46) (.tmp 46) 74 rfl 76 (.agg #[.int .u8 0, .int .u8 0, .int .u32 0]) 3 8 Try.underlying74 info43 rfl (by decide) .u8 .u8 z rfl rfl (by omega) (by omega) ?_; intro w1 ho1 hbm; have HO1 := Lib.hid ho1; have hrow1 := hrow.below hbm)
            | (refine wpList_stO rfl 74 (.tmp 48) (.tmp 47) rfl (.slice (some ⟨W.heap.size, 0, none⟩) z z) k rfl rfl hrow1 (by simp [Value.cells]; omega) (by kernel_rfl) (by simp [Value.cells, Value.oneCell']) ?_; intro w5 h5 g5)
            | (refine wpList_stB rfl 161 (.tmp 50) (.const (.int .i64 3)) rfl (.int .i64 3) 1 rfl rfl ((HDB.out.below hbm).grown g5 HQ.out) (by simp [Value.cells]) (by kernel_rfl) (by simp [Value.cells, Value.oneCell']) ?_; intro w6 B6 g6))
          have F6 : Hid (AnsP Φ B w q (entsX a c).1 [] (entsX a c).2 (.returned (.tuple #[.slice none 0 0, .int .i64 0])) w6) := Lib.hid (by
            have B6 : Blk w6 q 164 #[.int .i64 a.evs, .int .i64 3, .slice A0 cl.length c0, .pointer P] := B6
            have hoT := HO1.out
            rw [ecells_rep] at hoT
            obtain ⟨Φ', h1, h2⟩ := ents_end (HXX.out.below hbW) (Ext.of_below (B := B) (S := fun _ => False) HN.out hbW).nu H4.out H16.out hbm hoT HX.out HT.out HXA.out (by rw [HNT.out]; exact h5) g5 g6 B6
            exact HEM.out _ HEE.out _ w6 (AnsP.none_ (E := 0) Φ' ⟨HOK2.out, _, c0, _, P, tab_abs cl i k _ _ _ x, h1⟩ ((Ext.of_below HN.out hbW).trans h2)))
          clear h5 g5 g6 B6 ho1 HO1 hrow1 hbm
          go_wp2_with fail
          go_ret2
          exact F6.out
    · subst hsx
      have HSE : Hid (¬ (a.step ≠ 2 ∧ a.step ≠ 3)) := Lib.hid (by have := HS.out; omega)
      clear HS
      by_cases h0 : 0 < m
      · have d0 : decide ((0 : Int) < m) = true := decide_eq_true (by omega)
        have FF := Lib.hid (HEM.out (a, 90) (by rw [HE.out, entsN_two HSE.out HTO.out (by rw [HMT.out]; exact h0)]) _ W (AnsP.stay (E := 90) HD.out HN.out hbW))
        go_wp2_with fail
        refine L.mono ?_
        rintro e w' ⟨rfl, rfl⟩
        clear L
        go_wp2_with fail
        go_ret2
        exact FF.out
      · obtain rfl : m = 0 := by omega
        by_cases h7 : 7 < z
        · have d1 : decide ((7 : Int) < z) = true := decide_eq_true (by omega)
          have FF := Lib.hid (HEM.out (a, 20) (by rw [HE.out, entsN_full HSE.out HTO.out HMT.out h7]) _ W (AnsP.stay (E := 20) HD.out HN.out hbW))
          go_wp2_with fail
          refine L.mono ?_
          rintro e w' ⟨rfl, rfl⟩
          clear L
          go_wp2_with fail
          go_ret2
          exact FF.out
        · have d1 : decide ((7 : Int) < z) = false := decide_eq_false (by omega)
          have hz7 : z ≤ 7 := by omega
          have HEE := Lib.hid (HE.out.trans (entsN_yes HSE.out HTO.out HMT.out h7))
          have HOK2 : Hid (({ a with ls := (abs cl).set i { x.ab with tabs := x.ab.tabs.set k (List.replicate z e0) }, step := 3 } : Dq).ok) := Lib.hid (by
            rw [HAB.out]
            exact tab_ok HOK.out (s := 3) (by rw [← HAB.out]; exact HAX.out) (ab_tab HT.out) (by simp; omega) (fun e he => by rw [List.eq_of_mem_replicate he]; exact ⟨by decide, by decide, by decide, by decide, by decide, by decide⟩) (by decide) (by decide) (by rw [HMT.out]; exact Nat.zero_le _))
          have hXW := HXX.out.below hbW
          have HDB := Lib.hid hXW.blk
          have hrow := (hXW.tab i x HX.out).1
          rw [HXA.out] at hrow
          rw [HNT.out] at hrow
          have hq41 := own_blk_ne hrow hXW.blk (by decide)
          have HQ : Hid (some q ≠ some gt) := Lib.hid hq41
          clear hXW hq41
          go_wp2_with fail
          refine L.mono ?_
          rintro e w' ⟨rfl, rfl⟩
          clear L
          go_upto_region 11 with (first
            | (refine wpList_mk rfl (.tmp 46) (.tmp 46) 74 rfl 76 (.agg #[.int .u8 0, .int .u8 0, .int .u32 0]) 3 8 Try.underlying74 info43 rfl (by decide) .u8 .u8 z rfl rfl (by omega) (by omega) ?_; intro w1 ho1 hbm; have HO1 := Lib.hid ho1; have hrow1 := hrow.below hbm)
            | (refine wpList_stO rfl 74 (.tmp 48) (.tmp 47) rfl (.slice (some ⟨W.heap.size, 0, none⟩) z z) k rfl rfl hrow1 (by simp [Value.cells]; omega) (by kernel_rfl) (by simp [Value.cells, Value.oneCell']) ?_; intro w5 h5 g5)
            | (refine wpList_stB rfl 161 (.tmp 50) (.const (.int .i64 3)) rfl (.int .i64 3) 1 rfl rfl ((HDB.out.below hbm).grown g5 HQ.out) (by simp [Value.cells]) (by kernel_rfl) (by simp [Value.cells, Value.oneCell']) ?_; intro w6 B6 g6))
          have F6 : Hid (AnsP Φ B w q (entsX a c).1 [] (entsX a c).2 (.returned (.tuple #[.slice none 0 0, .int .i64 0])) w6) := Lib.hid (by
            have B6 : Blk w6 q 164 #[.int .i64 a.evs, .int .i64 3, .slice A0 cl.length c0, .pointer P] := B6
            have hoT := HO1.out
            rw [ecells_rep] at hoT
            obtain ⟨Φ', h1, h2⟩ := ents_end (HXX.out.below hbW) (Ext.of_below (B := B) (S := fun _ => False) HN.out hbW).nu H4.out H16.out hbm hoT HX.out HT.out HXA.out (by rw [HNT.out]; exact h5) g5 g6 B6
            exact HEM.out _ HEE.out _ w6 (AnsP.none_ (E := 0) Φ' ⟨HOK2.out, _, c0, _, P, tab_abs cl i k _ _ _ x, h1⟩ ((Ext.of_below HN.out hbW).trans h2)))
          clear h5 g5 g6 B6 ho1 HO1 hrow1 hbm
          go_wp2_with fail
          go_ret2
          exact F6.out
  · have L := Lib.hid (table_no (hX.below hb) hi256 hk256 hno)
    have HNO : Hid (tabOf (abs cl) i k = none) := Lib.hid (tabOf_none hno)
    clear hX hok hab hN hit hkt hzt hi hk hz hE hnn hs hno hn4 hs3
    go_enter Try.func94, Try.ntmps94
    go_upto_region 1 with fail
    refine wp_named fun W hW => ?_
    have hbW : Below w.heap.size w W := by subst hW; exact hb
    have L : Calls Try.prog 120 #[.pointer (some ⟨q, 0, none⟩), .int .u8 i, .int .u8 k] W fun e w' => e = .returned (.pointer none) ∧ W = w' := by subst hW; exact L.out
    have hcc : ∀ i, W.cell? ⟨w.heap.size, i, none⟩ = c.cs.toArray[i]? := by subst hW; exact RC _ (Below.refl _ _)
    have hdc : ∀ i, W.cell? ⟨q, i, none⟩ = (#[.int .i64 a.evs, .int .i64 s, .slice A0 n c0, .pointer P] : Array Value)[i]? := by subst hW; exact RD _ (Below.refl _ _)
    have hi := HI.out
    have hk := HK.out
    have hz := HZ.out
    clear hW RD RC
    rcases (by omega : s = 0 ∨ s = 1 ∨ s = 2 ∨ s = 3) with hsx | hsx | hsx | hsx
    · subst hsx
      have FF := Lib.hid (HEM.out (a, 90) (by rw [HE.out, entsN_seq (by have := HS.out; omega)]) _ W (AnsP.stay (E := 90) HD.out HN.out hbW))
      go_wp2_with fail
      refine L.mono ?_
      rintro e w' ⟨rfl, rfl⟩
      clear L
      go_wp2_with fail
      go_ret2
      exact FF.out
    · subst hsx
      have FF := Lib.hid (HEM.out (a, 90) (by rw [HE.out, entsN_seq (by have := HS.out; omega)]) _ W (AnsP.stay (E := 90) HD.out HN.out hbW))
      go_wp2_with fail
      refine L.mono ?_
      rintro e w' ⟨rfl, rfl⟩
      clear L
      go_wp2_with fail
      go_ret2
      exact FF.out
    · subst hsx
      have HSE : Hid (¬ (a.step ≠ 2 ∧ a.step ≠ 3)) := Lib.hid (by have := HS.out; omega)
      clear HS
      have FF := Lib.hid (HEM.out (a, 1) (by rw [HE.out, entsN_no HSE.out HNO.out]) _ W (AnsP.stay (E := 1) HD.out HN.out hbW))
      go_wp2_with fail
      refine L.mono ?_
      rintro e w' ⟨rfl, rfl⟩
      clear L
      go_wp2_with fail
      go_ret2
      exact FF.out
    · subst hsx
      have HSE : Hid (¬ (a.step ≠ 2 ∧ a.step ≠ 3)) := Lib.hid (by have := HS.out; omega)
      clear HS
      have FF := Lib.hid (HEM.out (a, 1) (by rw [HE.out, entsN_no HSE.out HNO.out]) _ W (AnsP.stay (E := 1) HD.out HN.out hbW))
      go_wp2_with fail
      refine L.mono ?_
      rintro e w' ⟨rfl, rfl⟩
      clear L
      go_wp2_with fail
      go_ret2
      exact FF.out
end Go.Proofs.Yteecgdbicokgoaa
