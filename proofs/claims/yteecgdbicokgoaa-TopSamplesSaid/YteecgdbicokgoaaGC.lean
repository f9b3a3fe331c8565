/- Daq: AllocOdt. -/
import Derived.Test.YteecgdbicokgoaaGB
import Derived.Test.YteecgdbicokgoaaG7
import Derived.Test.YteecgdbicokgoaaMak
namespace Go.Proofs.Yteecgdbicokgoaa
open Go.RowKit
set_option linter.unusedVariables false
set_option linter.unusedSimpArgs false
set_option maxRecDepth 100000
theorem many_set : ∀ (l : List Ls) (i : Nat) (x y : Ls), l[i]? = some x → manyT (l.set i y) + x.tabs.length = manyT l + y.tabs.length
  | [], i, x, y, h => by simp at h
  | z :: l, 0, x, y, h => by simp at h; subst h; simp [manyT]; omega
  | z :: l, i + 1, x, y, h => by
    have ih := many_set l i x y (by simpa using h)
    simp only [manyT, List.set_cons_succ, List.map_cons, List.sum_cons] at ih ⊢
    omega
/-- AllocOdt. -/
def odtsN (a : Dq) (ls : List Ls) (i k : Nat) : Dq × Int :=
  if a.step ≠ 1 ∧ a.step ≠ 2 then (a, 90) else
  match ls[i]? with
  | none => (a, 1)
  | some x => if 0 < x.tabs.length then (a, 90) else if 16 < k + manyT ls then (a, 20) else ({ a with ls := ls.set i { x with tabs := List.replicate k [] }, step := 2 }, 0)
def odtsX (a : Dq) (c : Cm) : Dq × Int := odtsN a a.ls c.a0.toNat c.a1.toNat
theorem odtsN_seq {a : Dq} {ls : List Ls} {i k : Nat} (h : a.step ≠ 1 ∧ a.step ≠ 2) : odtsN a ls i k = (a, 90) := by unfold odtsN; rw [if_pos h]
theorem odtsN_no {a : Dq} {ls : List Ls} {i k : Nat} (h : ¬ (a.step ≠ 1 ∧ a.step ≠ 2)) (hx : ls[i]? = none) : odtsN a ls i k = (a, 1) := by unfold odtsN; rw [if_neg h, hx]
theorem odtsN_two {a : Dq} {ls : List Ls} {i k : Nat} {x : Ls} (h : ¬ (a.step ≠ 1 ∧ a.step ≠ 2)) (hx : ls[i]? = some x) (h0 : 0 < x.tabs.length) : odtsN a ls i k = (a, 90) := by unfold odtsN; rw [if_neg h, hx]; show (if 0 < x.tabs.length then _ else _) = _; rw [if_pos h0]
theorem odtsN_full {a : Dq} {ls : List Ls} {i k : Nat} {x : Ls} (h : ¬ (a.step ≠ 1 ∧ a.step ≠ 2)) (hx : ls[i]? = some x) (h0 : x.tabs.length = 0) (hm : 16 < k + manyT ls) : odtsN a ls i k = (a, 20) := by unfold odtsN; rw [if_neg h, hx]; show (if 0 < x.tabs.length then _ else if _ then _ else _) = _; rw [if_neg (by omega), if_pos hm]
theorem odtsN_yes {a : Dq} {ls : List Ls} {i k : Nat} {x : Ls} (h : ¬ (a.step ≠ 1 ∧ a.step ≠ 2)) (hx : ls[i]? = some x) (h0 : x.tabs.length = 0) (hm : ¬ 16 < k + manyT ls) : odtsN a ls i k = ({ a with ls := ls.set i { x with tabs := List.replicate k [] }, step := 2 }, 0) := by unfold odtsN; rw [if_neg h, hx]; show (if 0 < x.tabs.length then _ else if _ then _ else _) = _; rw [if_neg (by omega), if_neg hm]
theorem odts_ok {a : Dq} (h : a.ok) {i k : Nat} {x : Ls} (hx : a.ls[i]? = some x) (h0 : x.tabs.length = 0) (hk : k + manyT a.ls ≤ 16) : ({ a with ls := a.ls.set i { x with tabs := List.replicate k [] }, step := 2 } : Dq).ok := by
  have hm : manyT (a.ls.set i { x with tabs := List.replicate k [] }) + x.tabs.length = manyT a.ls + k := by
    have := many_set a.ls i x { x with tabs := List.replicate k [] } hx
    rwa [show ({ x with tabs := List.replicate k [] } : Ls).tabs.length = k from List.length_replicate] at this
  have hmem : ∀ y ∈ a.ls.set i { x with tabs := List.replicate k [] }, y ∈ a.ls ∨ y = { x with tabs := List.replicate k [] } := fun y hy => by
    rcases List.mem_or_eq_of_mem_set hy with h | h
    · exact .inl h
    · exact .inr h
  refine ⟨h.e1, h.e4, by show (2 : Nat) ≤ 3; decide, by show (a.ls.set _ _).length ≤ 4; rw [List.length_set]; exact h.n4, by show manyT (a.ls.set i { x with tabs := List.replicate k [] }) ≤ 16; omega, fun y hy t ht => ?_, fun y hy => ?_, fun y hy t ht => ?_, (fun h => by cases h), fun p hp => ?_⟩
  · rcases hmem y hy with h1 | rfl
    · exact h.t7 y h1 t ht
    · rw [List.eq_of_mem_replicate ht]; simp
  · rcases hmem y hy with h1 | rfl
    · exact h.f0 y h1
    · exact h.f0 x (List.mem_of_getElem? hx)
  · rcases hmem y hy with h1 | rfl
    · exact h.wf y h1 t ht
    · rw [List.eq_of_mem_replicate ht]; intro e he; cases he
  · obtain ⟨y, t, h1, h2, h3⟩ := h.pp p hp
    by_cases hpi : p.1 = i
    · exfalso
      rw [hpi, hx] at h1
      injection h1 with h1
      subst h1
      have := (List.getElem?_eq_some_iff.1 h2).1
      omega
    · exact ⟨y, t, by show (a.ls.set i _)[p.1]? = _; rw [List.getElem?_set_ne (by omega)]; exact h1, h2, h3⟩
theorem odts_end {Φ : Who} {B : Nat} {w w1 w5 w6 : World} {q evs step step' c0 : Nat} {P : Option Addr} {cl : List Lc} {pt : Option (Nat × Nat × Nat)} {g o : Nat} (h : DXc Φ B w q evs step (some ⟨g, o, none⟩) c0 cl P pt) (hN : Nu Φ w) (hb : Below w.heap.size w w1) {T : Option Addr} {k cT : Nat} (hT : Own w1 w.heap.size 74 1 T k cT (List.replicate k (.slice none 0 0))) {i : Nat} {x : Lc} (hx : cl[i]? = some x)
    (h5 : Own w5 B 71 8 (some ⟨g, o, none⟩) cl.length c0 (putL (lcells cl) (i * 8 + 1) [.slice T k cT])) (g5 : w1.grownBy w5 (some g)) (g6 : w5.grownBy w6 (some q)) (B6 : Blk w6 q 164 #[.int .i64 evs, .int .i64 step', .slice (some ⟨g, o, none⟩) cl.length c0, .pointer P]) :
    ∃ Φ', DXc Φ' B w6 q evs step' (some ⟨g, o, none⟩) c0 (cl.set i { x with A := T, c := cT, tabs := List.replicate k ⟨none, 0, []⟩ }) P pt ∧ Ext B (SdD q) Φ Φ' w w6 := by
  obtain ⟨Φ', h1, h2⟩ := h.setT hN hb hT rfl hx h5 g5
  obtain ⟨h3, h4⟩ := h1.own0 h2.nu g6 (step' := step') (by rw [List.length_set]; exact B6)
  exact ⟨Φ', h3, h2.trans h4⟩
theorem odts_abs (cl : List Lc) (i k : Nat) (T : Option Addr) (cT : Nat) {x : Lc} (hx : cl[i]? = some x) : abs (cl.set i { x with A := T, c := cT, tabs := List.replicate k ⟨none, 0, []⟩ }) = (abs cl).set i { x.ab with tabs := List.replicate k [] } := by
  rw [set_abs]
  congr 1
  simp [Lc.ab, Tb.ab]
set_option maxRecDepth 100000 in
set_option maxHeartbeats 8000000 in
theorem odts_no {Φ : Who} {B q : Nat} {w : World} {a : Dq} (h : DX Φ B w q a) (hN : Nu Φ w) (c : Cm) (hc : c.wf) (hno : a.ls.length ≤ c.a0.toNat) : Calls Try.prog 93 #[.pointer (some ⟨q, 0, none⟩), c.val] w (AnsP Φ B w q (odtsX a c).1 [] (odtsX a c).2) := by
  have HD := Lib.hid h
  have HN := Lib.hid hN
  obtain ⟨hok, A0, c0, cl, P, hab, hX⟩ := h
  have HOK := Lib.hid hok
  have HAB := Lib.hid hab
  have hb := bl1 w (.cells c.cs.toArray 35)
  have HXX := Lib.hid hX
  obtain ⟨i, hi⟩ : ∃ i : Nat, c.a0 = i := ⟨c.a0.toNat, by have := hc.h0.1; omega⟩
  obtain ⟨k, hk⟩ : ∃ k : Nat, c.a1 = k := ⟨c.a1.toNat, by have := hc.h1.1; omega⟩
  have hi256 : i < 256 := by have := hc.h0.2; omega
  have hk256 : k < 256 := by have := hc.h1.2; omega
  have hit : c.a0.toNat = i := by omega
  have hkt : c.a1.toNat = k := by omega
  have HI := Lib.hid hi
  have HK := Lib.hid hk
  have hkI : (k : Int) < 256 := by omega
  have hwk : IntKind.i64.wrap (k : Int) = k := IntWalk.i64_in _ (by omega)
  have hn4 := hok.n4
  rw [← hab, abs_len] at hn4
  have HM : Hid (manyT (abs cl) ≤ 16) := Lib.hid (by rw [hab]; exact hok.m16)
  obtain ⟨n, hnn⟩ : ∃ n, cl.length = n := ⟨_, rfl⟩
  have HL := Lib.hid hnn
  have hnI : (n : Int) ≤ 4 := by omega
  have hA0 : Hid (0 < n → ∃ g o, A0 = some ⟨g, o, none⟩) := Lib.hid fun h => hX.ad (i := 0) (by omega)
  have hcn := hX.row.1.2.1
  rw [hnn] at hcn
  have hE : odtsX a c = odtsN a (abs cl) i k := by
    unfold odtsX
    rw [hit, hkt, ← hab]
  have HE := Lib.hid hE
  have HEM : Hid (∀ r : Dq × Int, odtsX a c = r → ∀ e w', AnsP Φ B w q r.1 [] r.2 e w' → AnsP Φ B w q (odtsX a c).1 [] (odtsX a c).2 e w') := Lib.hid fun r h e w' h2 => by rw [h]; exact h2
  have hs3 := hok.s3
  obtain ⟨s, hs⟩ : ∃ s : Int, (a.step : Int) = s := ⟨_, rfl⟩
  have HS := Lib.hid hs
  have hs03 : 0 ≤ s ∧ s ≤ 3 := by omega
  have HFM : Hid (∀ m, m = manyT (abs cl) → 0 ≤ m) := Lib.hid fun _ _ => Nat.zero_le _
  have hil : cl.length ≤ i := by rw [← abs_len, hab]; omega
  have L := Lib.hid (list_no (hX.below hb) hil hi256)
  have HNO : Hid ((abs cl)[i]? = none) := Lib.hid (List.getElem?_eq_none (by rw [abs_len]; exact hil))
  have RD := (hX.below hb).blk.rule
  rw [hnn, hs] at RD
  have RC : ∀ w', Below (w.alloc (.cells c.cs.toArray 35)).heap.size (w.alloc (.cells c.cs.toArray 35)) w' → ∀ i, w'.cell? ⟨w.heap.size, i, none⟩ = c.cs.toArray[i]? := (Blk.new w 35 c.cs.toArray).rule
  clear hX hok hab hN hit hkt hi hk hE hnn hs hil hno
  go_enter Try.func93, Try.ntmps93
  go_upto_region 1 with fail
  refine wp_named fun W hW => ?_
  have hbW : Below w.heap.size w W := by subst hW; exact hb
  have L : Calls Try.prog 119 #[.pointer (some ⟨q, 0, none⟩), .int .u8 i] W fun e w' => e = .returned (.pointer none) ∧ W = w' := by subst hW; exact L.out
  have RC : ∀ w', Below W.heap.size W w' → ∀ i, w'.cell? ⟨w.heap.size, i, none⟩ = c.cs.toArray[i]? := by subst hW; exact RC
  have RD : ∀ w', Below W.heap.size W w' → ∀ i, w'.cell? ⟨q, i, none⟩ = (#[.int .i64 a.evs, .int .i64 s, .slice A0 n c0, .pointer P] : Array Value)[i]? := by subst hW; exact RD
  have hcc := RC W (Below.refl _ _)
  have hdc := RD W (Below.refl _ _)
  have hi := HI.out
  have hk := HK.out
  clear hW
  go_wp2_with fail
  refine L.mono ?_
  rintro e w' ⟨rfl, rfl⟩
  clear L
  go_wp2_with fail
  clear hcc hdc
  go_loopw [24, 7] (fun iv mv wr => ∃ j : Nat, j ≤ n ∧ iv = .int .i64 j ∧ mv = .int .i64 ((k + manyT ((abs cl).take j) : Nat) : Int) ∧ Below W.heap.size W wr) (fun iv _ _ => n - (intOf iv).toNat)
  case atStart => exact ⟨0, Nat.zero_le _, rfl, by simp [manyT], Below.refl _ _⟩
  case round =>
    obtain ⟨j, hj, rfl, rfl, hbr⟩ := hrel
    by_cases hlt : j < n
    · have hltI : (j : Int) < n := by omega
      obtain ⟨y, hy⟩ : ∃ y, cl[j]? = some y := ⟨_, List.getElem?_eq_getElem (by rw [HL.out]; exact hlt)⟩
      obtain ⟨g, o, rfl⟩ := hA0.out (by omega)
      have hXr := HXX.out.below (hbW.trans (hbr.mono hbW.size))
      have r0 := hXr.lcell rfl hy 0 _ rfl
      have r1 := hXr.lcell rfl hy 1 _ rfl
      have r2 := hXr.lcell rfl hy 2 _ rfl
      have r3 := hXr.lcell rfl hy 3 _ rfl
      have r4 := hXr.lcell rfl hy 4 _ rfl
      have r5 := hXr.lcell rfl hy 5 _ rfl
      have r6 := hXr.lcell rfl hy 6 _ rfl
      have r7 := hXr.lcell rfl hy 7 _ rfl
      rw [Nat.add_zero] at r0
      have hsum := many_take _ _ _ (abs_get hy)
      have hsle := Nat.le_trans (many_le (abs cl) (j + 1)) HM.out
      have hyl : y.ab.tabs.length = y.tabs.length := by simp [Lc.ab]
      rw [hyl] at hsum
      obtain ⟨nt, hnt⟩ : ∃ nt, y.tabs.length = nt := ⟨_, rfl⟩
      obtain ⟨yA, hyA⟩ : ∃ yA, y.A = yA := ⟨_, rfl⟩
      obtain ⟨m0, hm0⟩ : ∃ m0, k + manyT ((abs cl).take j) = m0 := ⟨_, rfl⟩
      obtain ⟨m1, hm1⟩ : ∃ m1, k + manyT ((abs cl).take (j + 1)) = m1 := ⟨_, rfl⟩
      rw [hnt, hyA] at r1
      rw [hnt] at hsum
      have FF : Hid (∀ w', Below W.heap.size W w' → ∃ j' : Nat, j' ≤ n ∧ Value.int .i64 ((j : Int) + 1) = .int .i64 j' ∧ Value.int .i64 (m1 : Int) = .int .i64 ((k + manyT ((abs cl).take j') : Nat) : Int) ∧ Below W.heap.size W w') := Lib.hid fun w' h => ⟨j + 1, by omega, by simp, by rw [hm1], h⟩
      have hadd : (m0 : Int) + nt = m1 := by omega
      have hm1b : (m1 : Int) < 300 := by omega
      have hw1 : IntKind.i64.wrap (m1 : Int) = m1 := IntWalk.i64_in _ (by omega)
      rw [hm0]
      clear hXr hsum hsle hyl hm0 hm1 hnt hyA hy
      go_upto_region 6 with fail
      refine wp_named fun W2 hW2 => ?_
      obtain ⟨BL, hbW2⟩ := blk1 (c1 := #[.int .i64 y.first, .slice yA nt y.c, .bool y.stim, .int .u8 y.ev, .int .u8 y.pre, .int .u8 y.pri, .bool y.on, .bool y.ch]) hW2
      have bl := BL.cell
      have hb2 := hbr.trans (hbW2.mono hbr.size)
      have F2 := Lib.hid (FF.out W2 hb2)
      clear hW2 r0 r1 r2 r3 r4 r5 r6 r7 hb2 hbW2 FF RC RD
      go_wp2_with fail
      clear bl
      go_roundw
      case rel => exact F2.out
      case measure => simp [intOf]; omega
    · obtain rfl : n = j := by omega
      have hmm : k + manyT ((abs cl).take n) = k + manyT (abs cl) := by rw [List.take_of_length_le (by rw [abs_len, HL.out]; exact Nat.le_refl _)]
      rw [hmm]
      obtain ⟨m, hm⟩ : ∃ m, k + manyT (abs cl) = m := ⟨_, rfl⟩
      have HMM := Lib.hid hm
      rw [hm]
      have hm300 : m ≤ 300 := by have := HM.out; omega
      have hmI : (m : Int) ≤ 300 := by omega
      have rdr := RD wr hbr
      have rcr := RC wr hbr
      have hb1 := hbW.trans (hbr.mono hbW.size)
      clear hmm hm
      rcases (by omega : s = 0 ∨ s = 1 ∨ s = 2 ∨ s = 3) with hsx | hsx | hsx | hsx
      · have hsx : s = 0 := hsx
        subst hsx
        have FF := Lib.hid (HEM.out (a, 90) (by rw [HE.out, odtsN_seq (by have := HS.out; omega)]) _ wr (AnsP.stay (E := 90) HD.out HN.out hb1))
        go_wp2_with fail
        go_ret2
        exact FF.out
      · have hsx : s = 1 := hsx
        subst hsx
        have HSE : Hid (¬ (a.step ≠ 1 ∧ a.step ≠ 2)) := Lib.hid (by have := HS.out; omega)
        clear HS
        have FF := Lib.hid (HEM.out (a, 1) (by rw [HE.out, odtsN_no HSE.out HNO.out]) _ wr (AnsP.stay (E := 1) HD.out HN.out hb1))
        go_wp2_with fail
        go_ret2
        exact FF.out
      · have hsx : s = 2 := hsx
        subst hsx
        have HSE : Hid (¬ (a.step ≠ 1 ∧ a.step ≠ 2)) := Lib.hid (by have := HS.out; omega)
        clear HS
        have FF := Lib.hid (HEM.out (a, 1) (by rw [HE.out, odtsN_no HSE.out HNO.out]) _ wr (AnsP.stay (E := 1) HD.out HN.out hb1))
        go_wp2_with fail
        go_ret2
        exact FF.out
      · have hsx : s = 3 := hsx
        subst hsx
        have FF := Lib.hid (HEM.out (a, 90) (by rw [HE.out, odtsN_seq (by have := HS.out; omega)]) _ wr (AnsP.stay (E := 90) HD.out HN.out hb1))
        go_wp2_with fail
        go_ret2
        exact FF.out
set_option maxRecDepth 100000 in
set_option maxHeartbeats 8000000 in
theorem odts_yes {Φ : Who} {B q : Nat} {w : World} {a : Dq} (h : DX Φ B w q a) (hN : Nu Φ w) (c : Cm) (hc : c.wf) (hno : c.a0.toNat < a.ls.length) : Calls Try.prog 93 #[.pointer (some ⟨q, 0, none⟩), c.val] w (AnsP Φ B w q (odtsX a c).1 [] (odtsX a c).2) := by
  have HD := Lib.hid h
  have HN := Lib.hid hN
  obtain ⟨hok, A0, c0, cl, P, hab, hX⟩ := h
  have HOK := Lib.hid hok
  have HAB := Lib.hid hab
  have hb := bl1 w (.cells c.cs.toArray 35)
  have HXX := Lib.hid hX
  obtain ⟨i, hi⟩ : ∃ i : Nat, c.a0 = i := ⟨c.a0.toNat, by have := hc.h0.1; omega⟩
  obtain ⟨k, hk⟩ : ∃ k : Nat, c.a1 = k := ⟨c.a1.toNat, by have := hc.h1.1; omega⟩
  have hi256 : i < 256 := by have := hc.h0.2; omega
  have hk256 : k < 256 := by have := hc.h1.2; omega
  have hit : c.a0.toNat = i := by omega
  have hkt : c.a1.toNat = k := by omega
  have HI := Lib.hid hi
  have HK := Lib.hid hk
  have hkI : (k : Int) < 256 := by omega
  have hwk : IntKind.i64.wrap (k : Int) = k := IntWalk.i64_in _ (by omega)
  have hn4 := hok.n4
  rw [← hab, abs_len] at hn4
  have HM : Hid (manyT (abs cl) ≤ 16) := Lib.hid (by rw [hab]; exact hok.m16)
  obtain ⟨n, hnn⟩ : ∃ n, cl.length = n := ⟨_, rfl⟩
  have HL := Lib.hid hnn
  have hnI : (n : Int) ≤ 4 := by omega
  have hA0 : Hid (0 < n → ∃ g o, A0 = some ⟨g, o, none⟩) := Lib.hid fun h => hX.ad (i := 0) (by omega)
  have hcn := hX.row.1.2.1
  rw [hnn] at hcn
  have hE : odtsX a c = odtsN a (abs cl) i k := by
    unfold odtsX
    rw [hit, hkt, ← hab]
  have HE := Lib.hid hE
  have HEM : Hid (∀ r : Dq × Int, odtsX a c = r → ∀ e w', AnsP Φ B w q r.1 [] r.2 e w' → AnsP Φ B w q (odtsX a c).1 [] (odtsX a c).2 e w') := Lib.hid fun r h e w' h2 => by rw [h]; exact h2
  have hs3 := hok.s3
  obtain ⟨s, hs⟩ : ∃ s : Int, (a.step : Int) = s := ⟨_, rfl⟩
  have HS := Lib.hid hs
  have hs03 : 0 ≤ s ∧ s ≤ 3 := by omega
  have HFM : Hid (∀ m, m = manyT (abs cl) → 0 ≤ m) := Lib.hid fun _ _ => Nat.zero_le _
  have hil : i < cl.length := by rw [← abs_len, hab]; omega
  obtain ⟨x, hx⟩ : ∃ x, cl[i]? = some x := ⟨_, List.getElem?_eq_getElem hil⟩
  obtain ⟨g, o, rfl⟩ := hX.ad hil
  have L := Lib.hid (list_yes (hX.below hb) rfl hil hi256)
  have HX := Lib.hid hx
  have HAX : Hid ((abs cl)[i]? = some x.ab) := Lib.hid (abs_get hx)
  have hin : i < n := by omega
  have HQ : Hid (some q ≠ some g) := Lib.hid (own_blk_ne hX.row.1 hX.blk (by decide))
  have RD := (hX.below hb).blk.rule
  rw [hnn, hs] at RD
  have RC : ∀ w', Below (w.alloc (.cells c.cs.toArray 35)).heap.size (w.alloc (.cells c.cs.toArray 35)) w' → ∀ i, w'.cell? ⟨w.heap.size, i, none⟩ = c.cs.toArray[i]? := (Blk.new w 35 c.cs.toArray).rule
  clear hX hok hab hN hit hkt hi hk hE hnn hs hno hil hx
  go_enter Try.func93, Try.ntmps93
  go_upto_region 1 with fail
  refine wp_named fun W hW => ?_
  have hbW : Below w.heap.size w W := by subst hW; exact hb
  have L : Calls Try.prog 119 #[.pointer (some ⟨q, 0, none⟩), .int .u8 i] W fun e w' => e = .returned (.pointer (some ⟨g, o + i * 8, none⟩)) ∧ W = w' := by subst hW; exact L.out
  have RC : ∀ w', Below W.heap.size W w' → ∀ i, w'.cell? ⟨w.heap.size, i, none⟩ = c.cs.toArray[i]? := by subst hW; exact RC
  have RD : ∀ w', Below W.heap.size W w' → ∀ i, w'.cell? ⟨q, i, none⟩ = (#[.int .i64 a.evs, .int .i64 s, .slice (some ⟨g, o, none⟩) n c0, .pointer P] : Array Value)[i]? := by subst hW; exact RD
  have hcc := RC W (Below.refl _ _)
  have hdc := RD W (Below.refl _ _)
  have hi := HI.out
  have hk := HK.out
  clear hW
  go_wp2_with fail
  refine L.mono ?_
  rintro e w' ⟨rfl, rfl⟩
  clear L
  go_wp2_with fail
  clear hcc hdc
  go_loopw [24, 7] (fun iv mv wr => ∃ j : Nat, j ≤ n ∧ iv = .int .i64 j ∧ mv = .int .i64 ((k + manyT ((abs cl).take j) : Nat) : Int) ∧ Below W.heap.size W wr) (fun iv _ _ => n - (intOf iv).toNat)
  case atStart => exact ⟨0, Nat.zero_le _, rfl, by simp [manyT], Below.refl _ _⟩
  case round =>
    obtain ⟨j, hj, rfl, rfl, hbr⟩ := hrel
    by_cases hlt : j < n
    · have hltI : (j : Int) < n := by omega
      obtain ⟨y, hy⟩ : ∃ y, cl[j]? = some y := ⟨_, List.getElem?_eq_getElem (by rw [HL.out]; exact hlt)⟩
      have hXr := HXX.out.below (hbW.trans (hbr.mono hbW.size))
      have r0 := hXr.lcell rfl hy 0 _ rfl
      have r1 := hXr.lcell rfl hy 1 _ rfl
      have r2 := hXr.lcell rfl hy 2 _ rfl
      have r3 := hXr.lcell rfl hy 3 _ rfl
      have r4 := hXr.lcell rfl hy 4 _ rfl
      have r5 := hXr.lcell rfl hy 5 _ rfl
      have r6 := hXr.lcell rfl hy 6 _ rfl
      have r7 := hXr.lcell rfl hy 7 _ rfl
      rw [Nat.add_zero] at r0
      have hsum := many_take _ _ _ (abs_get hy)
      have hsle := Nat.le_trans (many_le (abs cl) (j + 1)) HM.out
      have hyl : y.ab.tabs.length = y.tabs.length := by simp [Lc.ab]
      rw [hyl] at hsum
      obtain ⟨nt, hnt⟩ : ∃ nt, y.tabs.length = nt := ⟨_, rfl⟩
      obtain ⟨yA, hyA⟩ : ∃ yA, y.A = yA := ⟨_, rfl⟩
      obtain ⟨m0, hm0⟩ : ∃ m0, k + manyT ((abs cl).take j) = m0 := ⟨_, rfl⟩
      obtain ⟨m1, hm1⟩ : ∃ m1, k + manyT ((abs cl).take (j + 1)) = m1 := ⟨_, rfl⟩
      rw [hnt, hyA] at r1
      rw [hnt] at hsum
      have FF : Hid (∀ w', Below W.heap.size W w' → ∃ j' : Nat, j' ≤ n ∧ Value.int .i64 ((j : Int) + 1) = .int .i64 j' ∧ Value.int .i64 (m1 : Int) = .int .i64 ((k + manyT ((abs cl).take j') : Nat) : Int) ∧ Below W.heap.size W w') := Lib.hid fun w' h => ⟨j + 1, by omega, by simp, by rw [hm1], h⟩
      have hadd : (m0 : Int) + nt = m1 := by omega
      have hm1b : (m1 : Int) < 300 := by omega
      have hw1 : IntKind.i64.wrap (m1 : Int) = m1 := IntWalk.i64_in _ (by omega)
      rw [hm0]
      clear hXr hsum hsle hyl hm0 hm1 hnt hyA hy
      go_upto_region 6 with fail
      refine wp_named fun W2 hW2 => ?_
      obtain ⟨BL, hbW2⟩ := blk1 (c1 := #[.int .i64 y.first, .slice yA nt y.c, .bool y.stim, .int .u8 y.ev, .int .u8 y.pre, .int .u8 y.pri, .bool y.on, .bool y.ch]) hW2
      have bl := BL.cell
      have hb2 := hbr.trans (hbW2.mono hbr.size)
      have F2 := Lib.hid (FF.out W2 hb2)
      clear hW2 r0 r1 r2 r3 r4 r5 r6 r7 hb2 hbW2 FF RC RD
      go_wp2_with fail
      clear bl
      go_roundw
      case rel => exact F2.out
      case measure => simp [intOf]; omega
    · obtain rfl : n = j := by omega
      have hmm : k + manyT ((abs cl).take n) = k + manyT (abs cl) := by rw [List.take_of_length_le (by rw [abs_len, HL.out]; exact Nat.le_refl _)]
      rw [hmm]
      obtain ⟨m, hm⟩ : ∃ m, k + manyT (abs cl) = m := ⟨_, rfl⟩
      have HMM := Lib.hid hm
      rw [hm]
      have hm300 : m ≤ 300 := by have := HM.out; omega
      have hmI : (m : Int) ≤ 300 := by omega
      have rdr := RD wr hbr
      have rcr := RC wr hbr
      have hb1 := hbW.trans (hbr.mono hbW.size)
      clear hmm hm
      rcases (by omega : s = 0 ∨ s = 1 ∨ s = 2 ∨ s = 3) with hsx | hsx | hsx | hsx
      · have hsx : s = 0 := hsx
        subst hsx
        have FF := Lib.hid (HEM.out (a, 90) (by rw [HE.out, odtsN_seq (by have := HS.out; omega)]) _ wr (AnsP.stay (E := 90) HD.out HN.out hb1))
        go_wp2_with fail
        go_ret2
        exact FF.out
      · have hsx : s = 1 := hsx
        subst hsx
        have HSE : Hid (¬ (a.step ≠ 1 ∧ a.step ≠ 2)) := Lib.hid (by have := HS.out; omega)
        clear HS
        have hXr := HXX.out.below hb1
        have r1 := hXr.lcell rfl HX.out 1 _ rfl
        obtain ⟨nt, hnt⟩ : ∃ nt, x.tabs.length = nt := ⟨_, rfl⟩
        have HNT := Lib.hid hnt
        have hxl : x.ab.tabs.length = nt := by rw [← hnt]; simp [Lc.ab]
        rw [hnt] at r1
        obtain ⟨xA, hxA⟩ : ∃ xA, x.A = xA := ⟨_, rfl⟩
        rw [hxA] at r1
        have HXL := Lib.hid hxl
        have hrow := hXr.row.1
        rw [HL.out] at hrow
        have hntb := many_get _ _ _ (abs_get HX.out)
        rw [hxl] at hntb
        have hnt16 := Nat.le_trans hntb HM.out
        have hnt16I : (nt : Int) ≤ 16 := by omega
        clear hXr hnt hxl hntb hnt16 hxA
        by_cases h0 : 0 < nt
        · have h0I : (0 : Int) < nt := by omega
          have d0 : decide ((0 : Int) < nt) = true := decide_eq_true h0I
          have FF := Lib.hid (HEM.out (a, 90) (by rw [HE.out, odtsN_two HSE.out HAX.out (by rw [HXL.out]; exact h0)]) _ wr (AnsP.stay (E := 90) HD.out HN.out hb1))
          go_wp2_with fail
          go_ret2
          exact FF.out
        · obtain rfl : nt = 0 := by omega
          by_cases h16 : 16 < m
          · have d1 : decide ((16 : Int) < m) = true := decide_eq_true (by omega)
            have FF := Lib.hid (HEM.out (a, 20) (by rw [HE.out, odtsN_full HSE.out HAX.out HXL.out (by rw [HMM.out]; exact h16)]) _ wr (AnsP.stay (E := 20) HD.out HN.out hb1))
            go_wp2_with fail
            go_ret2
            exact FF.out
          · have d1 : decide ((16 : Int) < m) = false := decide_eq_false (by omega)
            have hk16 : k ≤ 16 := by have := HMM.out; omega
            have HEE : Hid (odtsX a c = ({ a with ls := (abs cl).set i { x.ab with tabs := List.replicate k [] }, step := 2 }, 0)) := Lib.hid (by
              rw [HE.out, odtsN_yes HSE.out HAX.out HXL.out (by rw [HMM.out]; exact h16)])
            have HOK2 : Hid (({ a with ls := (abs cl).set i { x.ab with tabs := List.replicate k [] }, step := 2 } : Dq).ok) := Lib.hid (by
              have := odts_ok HOK.out (i := i) (k := k) (x := x.ab) (by rw [← HAB.out]; exact HAX.out) HXL.out (by rw [← HAB.out, HMM.out]; omega)
              rw [← HAB.out] at this
              exact this)
            have hdb := (HXX.out.below hb1).blk
            rw [HL.out] at hdb
            have HDB := Lib.hid hdb
            clear hdb
            go_upto_region 17 with (first
              | (refine wpList_mk rfl (.tmp 64) (.tmp 64) 69 rfl 74 (.slice none 0 0) 1 24 Try.underlying69 info41 rfl (by decide) .u8 .u8 k rfl rfl (by omega) (by omega) ?_; intro w1 ho1 hbm; have hrow1 := hrow.below (hbm.mono (Nat.le_refl _)))
              | (refine wpList_stO rfl 69 (.tmp 67) (.tmp 65) rfl (.slice (some ⟨wr.heap.size, 0, none⟩) k k) (i * 8 + 1) (by first | rfl | (rw [← Nat.add_assoc]; rfl)) rfl hrow1 (by simp [Value.cells]; omega) (by kernel_rfl) (by simp [Value.cells, Value.oneCell']) ?_; intro w5 h5 g5; have hq5 := HDB.out)
              | (refine wpList_stB rfl 161 (.tmp 69) (.const (.int .i64 2)) rfl (.int .i64 2) 1 rfl rfl ((HDB.out.below hbm).grown g5 HQ.out) (by simp [Value.cells]) (by kernel_rfl) (by simp [Value.cells, Value.oneCell']) ?_; intro w6 B6 g6))
            have hoT : Own w1 wr.heap.size 74 1 (some ⟨wr.heap.size, 0, none⟩) k k (List.replicate k (.slice none 0 0)) := by
              have e : (List.replicate k (Value.slice none 0 0).cells.toList).flatten = List.replicate k (Value.slice none 0 0) := List.flatten_replicate_singleton
              rw [← e]
              exact ho1
            have B6 : Blk w6 q 164 #[.int .i64 a.evs, .int .i64 2, .slice (some ⟨g, o, none⟩) n c0, .pointer P] := B6
            have F6 : Hid (AnsP Φ B w q (odtsX a c).1 [] (odtsX a c).2 (.returned (.tuple #[.slice none 0 0, .int .i64 0])) w6) := Lib.hid (by
              obtain ⟨Φ', h1, h2⟩ := odts_end (HXX.out.below hb1) (Ext.of_below (B := B) (S := fun _ => False) HN.out hb1).nu hbm hoT HX.out (by rw [HL.out]; exact h5) g5 g6 (by rw [HL.out]; exact B6)
              exact HEM.out _ HEE.out _ w6 (AnsP.none_ (E := 0) Φ' ⟨HOK2.out, _, c0, _, P, odts_abs cl i k _ _ HX.out, h1⟩ ((Ext.of_below HN.out hb1).trans h2)))
            clear h5 g5 g6 B6 ho1 hoT hrow1 hbm
            go_wp2_with fail
            go_ret2
            exact F6.out
      · have hsx : s = 2 := hsx
        subst hsx
        have HSE : Hid (¬ (a.step ≠ 1 ∧ a.step ≠ 2)) := Lib.hid (by have := HS.out; omega)
        clear HS
        have hXr := HXX.out.below hb1
        have r1 := hXr.lcell rfl HX.out 1 _ rfl
        obtain ⟨nt, hnt⟩ : ∃ nt, x.tabs.length = nt := ⟨_, rfl⟩
        have HNT := Lib.hid hnt
        have hxl : x.ab.tabs.length = nt := by rw [← hnt]; simp [Lc.ab]
        rw [hnt] at r1
        obtain ⟨xA, hxA⟩ : ∃ xA, x.A = xA := ⟨_, rfl⟩
        rw [hxA] at r1
        have HXL := Lib.hid hxl
        have hrow := hXr.row.1
        rw [HL.out] at hrow
        have hntb := many_get _ _ _ (abs_get HX.out)
        rw [hxl] at hntb
        have hnt16 := Nat.le_trans hntb HM.out
        have hnt16I : (nt : Int) ≤ 16 := by omega
        clear hXr hnt hxl hntb hnt16 hxA
        by_cases h0 : 0 < nt
        · have h0I : (0 : Int) < nt := by omega
          have d0 : decide ((0 : Int) < nt) = true := decide_eq_true h0I
          have FF := Lib.hid (HEM.out (a, 90) (by rw [HE.out, odtsN_two HSE.out HAX.out (by rw [HXL.out]; exact h0)]) _ wr (AnsP.stay (E := 90) HD.out HN.out hb1))
          go_wp2_with fail
          go_ret2
          exact FF.out
        · obtain rfl : nt = 0 := by omega
          by_cases h16 : 16 < m
          · have d1 : decide ((16 : Int) < m) = true := decide_eq_true (by omega)
            have FF := Lib.hid (HEM.out (a, 20) (by rw [HE.out, odtsN_full HSE.out HAX.out HXL.out (by rw [HMM.out]; exact h16)]) _ wr (AnsP.stay (E := 20) HD.out HN.out hb1))
            go_wp2_with fail
            go_ret2
            exact FF.out
          · have d1 : decide ((16 : Int) < m) = false := decide_eq_false (by omega)
            have hk16 : k ≤ 16 := by have := HMM.out; omega
            have HEE : Hid (odtsX a c = ({ a with ls := (abs cl).set i { x.ab with tabs := List.replicate k [] }, step := 2 }, 0)) := Lib.hid (by
              rw [HE.out, odtsN_yes HSE.out HAX.out HXL.out (by rw [HMM.out]; exact h16)])
            have HOK2 : Hid (({ a with ls := (abs cl).set i { x.ab with tabs := List.replicate k [] }, step := 2 } : Dq).ok) := Lib.hid (by
              have := odts_ok HOK.out (i := i) (k := k) (x := x.ab) (by rw [← HAB.out]; exact HAX.out) HXL.out (by rw [← HAB.out, HMM.out]; omega)
              rw [← HAB.out] at this
              exact this)
            have hdb := (HXX.out.below hb1).blk
            rw [HL.out] at hdb
            have HDB := Lib.hid hdb
            clear hdb
            go_upto_region 17 with (first
              | (refine wpList_mk rfl (.tmp 64) (.tmp 64) 69 rfl 74 (.slice none 0 0) 1 24 Try.underlying69 info41 rfl (by decide) .u8 .u8 k rfl rfl (by omega) (by omega) ?_; intro w1 ho1 hbm; have hrow1 := hrow.below (hbm.mono (Nat.le_refl _)))
              | (refine wpList_stO rfl 69 (.tmp 67) (.tmp 65) rfl (.slice (some ⟨wr.heap.size, 0, none⟩) k k) (i * 8 + 1) (by first | rfl | (rw [← Nat.add_assoc]; rfl)) rfl hrow1 (by simp [Value.cells]; omega) (by kernel_rfl) (by simp [Value.cells, Value.oneCell']) ?_; intro w5 h5 g5; have hq5 := HDB.out)
              | (refine wpList_stB rfl 161 (.tmp 69) (.const (.int .i64 2)) rfl (.int .i64 2) 1 rfl rfl ((HDB.out.below hbm).grown g5 HQ.out) (by simp [Value.cells]) (by kernel_rfl) (by simp [Value.cells, Value.oneCell']) ?_; intro w6 B6 g6))
            have hoT : Own w1 wr.heap.size 74 1 (some ⟨wr.heap.size, 0, none⟩) k k (List.replicate k (.slice none 0 0)) := by
              have e : (List.replicate k (Value.slice none 0 0).cells.toList).flatten = List.replicate k (Value.slice none 0 0) := List.flatten_replicate_singleton
              rw [← e]
              exact ho1
            have B6 : Blk w6 q 164 #[.int .i64 a.evs, .int .i64 2, .slice (some ⟨g, o, none⟩) n c0, .pointer P] := B6
            have F6 : Hid (AnsP Φ B w q (odtsX a c).1 [] (odtsX a c).2 (.returned (.tuple #[.slice none 0 0, .int .i64 0])) w6) := Lib.hid (by
              obtain ⟨Φ', h1, h2⟩ := odts_end (HXX.out.below hb1) (Ext.of_below (B := B) (S := fun _ => False) HN.out hb1).nu hbm hoT HX.out (by rw [HL.out]; exact h5) g5 g6 (by rw [HL.out]; exact B6)
              exact HEM.out _ HEE.out _ w6 (AnsP.none_ (E := 0) Φ' ⟨HOK2.out, _, c0, _, P, odts_abs cl i k _ _ HX.out, h1⟩ ((Ext.of_below HN.out hb1).trans h2)))
            clear h5 g5 g6 B6 ho1 hoT hrow1 hbm
            go_wp2_with fail
            go_ret2
            exact F6.out
      · have hsx : s = 3 := hsx
        subst hsx
        have FF := Lib.hid (HEM.out (a, 90) (by rw [HE.out, odtsN_seq (by have := HS.out; omega)]) _ wr (AnsP.stay (E := 90) HD.out HN.out hb1))
        go_wp2_with fail
        go_ret2
        exact FF.out
end Go.Proofs.Yteecgdbicokgoaa
