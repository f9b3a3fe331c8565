/- Daq: StartAll. -/
import Derived.Test.YteecgdbicokgoaaG8
namespace Go.Proofs.Yteecgdbicokgoaa
open Go.RowKit
set_option linter.unusedVariables false
set_option linter.unusedSimpArgs false
set_option maxRecDepth 100000
def allL (v : Int) (x : Lc) : Lc := { x with on := if x.ch || v == 0 then v == 1 else x.on, ch := false }
def allS (v : Int) (x : Ls) : Ls := { x with on := if x.ch || v == 0 then v == 1 else x.on, ch := false }
def allX (a : Dq) (c : Cm) : Dq × Int := if 2 < c.a0 then (a, 1) else ({ a with ls := a.ls.map (allS c.a0) }, 0)
theorem all_abs (v : Int) (cl : List Lc) : abs (cl.map (allL v)) = (abs cl).map (allS v) := by
  unfold abs
  rw [List.map_map, List.map_map]
  rfl
theorem DSC.setL2 {Φ : Who} {B q evs step c0 gc : Nat} {P : Option Addr} {cl : List Lc} {pt : Option (Nat × Nat × Nat)} {w0 w w1 w2 : World} {c : Cm} {g o : Nat} (h : DSC Φ B q evs step (some ⟨g, o, none⟩) c0 cl P pt w0 gc c w) {i : Nat} {x x1 x2 : Lc} (hx : cl[i]? = some x) {j1 j2 : Nat} {v1 v2 : Value} (hj1 : j1 < 8) (hj2 : j2 < 8) (hc1 : x1.cs = putL x.cs j1 [v1]) (he1 : x1.A = x.A ∧ x1.c = x.c ∧ x1.tabs = x.tabs) (hc2 : x2.cs = putL x1.cs j2 [v2]) (he2 : x2.A = x1.A ∧ x2.c = x1.c ∧ x2.tabs = x1.tabs)
    (ho1 : Own w1 B 71 8 (some ⟨g, o, none⟩) cl.length c0 (putL (lcells cl) (i * 8 + j1) [v1])) (hg1 : w.grownBy w1 (some g)) (ho2 : Own w2 B 71 8 (some ⟨g, o, none⟩) cl.length c0 (putL (putL (lcells cl) (i * 8 + j1) [v1]) (i * 8 + j2) [v2])) (hg2 : w1.grownBy w2 (some g)) :
    DSC Φ B q evs step (some ⟨g, o, none⟩) c0 (cl.set i x2) P pt w0 gc c w2 := by
  have h1 := h.setL hx (j := j1) (cs := [v1]) (by simp; omega) hc1 he1 ho1 hg1
  have hil := (List.getElem?_eq_some_iff.1 hx).1
  have e := flatC_put Lc.cs 8 cl (fun _ _ => rfl) i x x1 hx j1 [v1] (by simp; omega) hc1
  have h2 := h1.setL (x' := x2) (List.getElem?_set_self hil) (j := j2) (cs := [v2]) (by simp; omega) hc2 he2 (by rw [List.length_set]; show Own _ _ _ _ _ _ _ (putL (flatC Lc.cs (cl.set i x1)) _ _); rw [← e]; exact ho2) hg2
  rw [List.set_set] at h2
  exact h2
set_option maxHeartbeats 4000000 in
theorem all_any {Φ : Who} {B q : Nat} {w : World} {a : Dq} (h : DX Φ B w q a) (hN : Nu Φ w) (c : Cm) (hc : c.wf) : Calls Try.prog 99 #[.pointer (some ⟨q, 0, none⟩), c.val] w (AnsP Φ B w q (allX a c).1 [] (allX a c).2) := by
  have HD := Lib.hid h
  have HN := Lib.hid hN
  obtain ⟨hok, A0, c0, cl, P, hab, hX⟩ := h
  have HOK := Lib.hid hok
  have HAB := Lib.hid hab
  have hb := bl1 w (.cells c.cs.toArray 35)
  have C0 := Lib.hid (DSC.box (a := a) hX hN c)
  have h0 := hc.h0.1
  by_cases h2 : 2 < c.a0
  · have FF : Hid (∀ w', Below w.heap.size w w' → AnsP Φ B w q (allX a c).1 [] (allX a c).2 (.returned (.tuple #[.slice none 0 0, .int .i64 1])) w') := Lib.hid fun w' hb => by
      unfold allX
      rw [if_pos h2]
      exact AnsP.stay (E := 1) HD.out HN.out hb
    have d2 : decide (2 < c.a0) = true := decide_eq_true h2
    have hcc := C0.out.cells
    clear hX hok hab hN
    go_enter Try.func99, Try.ntmps99
    go_wp2_with fail
    go_ret2
    exact FF.out _ hb
  · have hE : allX a c = ({ a with ls := a.ls.map (allS c.a0) }, 0) := by unfold allX; rw [if_neg h2]
    have d2 : decide (2 < c.a0) = false := decide_eq_false h2
    obtain ⟨n, hnn⟩ : ∃ n, cl.length = n := ⟨_, rfl⟩
    have HL := Lib.hid hnn
    have hn4 : n ≤ 4 := by have h4 := hok.n4; rw [← hab, abs_len] at h4; omega
    have hnI : (n : Int) ≤ 4 := by omega
    have hA0 : Hid (0 < n → ∃ g o, A0 = some ⟨g, o, none⟩) := Lib.hid fun h => hX.ad (i := 0) (by omega)
    have HE := Lib.hid hE
    have S0 : Hid (∀ W, W = w.alloc (.cells c.cs.toArray 35) → DSC Φ B q a.evs a.step A0 c0 (mapK (allL c.a0) 0 cl) P a.ptr w w.heap.size c W) := Lib.hid fun W hW => by rw [mapK_zero, hW]; exact C0.out
    have hcn := hX.row.1.2.1
    rw [hnn] at hcn
    clear hX hok hab hN hnn hE C0
    go_enter Try.func99, Try.ntmps99
    go_upto_region 1 with fail
    refine wp_named fun W hW => ?_
    have S1 := Lib.hid (S0.out W hW)
    have hcc := S1.out.cells
    have hdc := S1.out.d.x.cells
    rw [mapK_len, HL.out] at hdc
    clear hW S0
    go_wp2_with fail
    clear hcc hdc
    go_loopw [17] (fun iv wr => ∃ k : Nat, k ≤ n ∧ iv = .int .i64 k ∧ DSC Φ B q a.evs a.step A0 c0 (mapK (allL c.a0) k cl) P a.ptr w w.heap.size c wr) (fun iv _ => n - (intOf iv).toNat)
    case atStart => exact ⟨0, Nat.zero_le _, rfl, S1.out⟩
    case round =>
      clear S1
      obtain ⟨k, hk, rfl, hS⟩ := hrel
      by_cases hlt : k < n
      · have hlt' : (k : Int) < n := by omega
        obtain ⟨g, o, rfl⟩ := hA0.out (by omega)
        obtain ⟨x, hx⟩ : ∃ x, cl[k]? = some x := ⟨_, List.getElem?_eq_getElem (by rw [HL.out]; exact hlt)⟩
        have hx' : (mapK (allL c.a0) k cl)[k]? = some x := by rw [mapK_get]; exact hx
        have HX' := Lib.hid hx'
        have hFIN := mapK_set (allL c.a0) k cl x hx
        have HFIN := Lib.hid hFIN
        have hcc := hS.cells
        have hdc := hS.d.x.cells
        rw [mapK_len, HL.out] at hdc
        have r6 := hS.d.x.lcell rfl hx' 6 _ rfl
        have r7 := hS.d.x.lcell rfl hx' 7 _ rfl
        have HS := Lib.hid hS
        have row := hS.d.x.row.1
        rw [mapK_len, HL.out] at row
        have hlen : (mapK (allL c.a0) k cl).length = n := by rw [mapK_len, HL.out]
        have HLN := Lib.hid hlen
        obtain ⟨ch, hch⟩ : ∃ ch, x.ch = ch := ⟨_, rfl⟩
        rw [hch] at r7
        have FJ : Hid (∀ w1 w2 v1, v1 = (if ch || c.a0 == 0 then c.a0 == 1 else x.on) → Own w1 B 71 8 (some ⟨g, o, none⟩) n c0 (putL (lcells (mapK (allL c.a0) k cl)) (k * 8 + 6) [.bool v1]) → wr.grownBy w1 (some g) → Own w2 B 71 8 (some ⟨g, o, none⟩) n c0 (putL (putL (lcells (mapK (allL c.a0) k cl)) (k * 8 + 6) [.bool v1]) (k * 8 + 7) [.bool false]) → w1.grownBy w2 (some g) → ∃ k' : Nat, k' ≤ n ∧ Value.int .i64 ((k : Int) + 1) = .int .i64 k' ∧ DSC Φ B q a.evs a.step (some ⟨g, o, none⟩) c0 (mapK (allL c.a0) k' cl) P a.ptr w w.heap.size c w2) := Lib.hid fun w1 w2 v1 hv1 h1 h2 h3 h4 => by
          refine ⟨k + 1, by omega, by simp, ?_⟩
          rw [← HFIN.out]
          exact HS.out.setL2 HX'.out (x1 := { x with on := v1 }) (x2 := allL c.a0 x) (j1 := 6) (j2 := 7) (by decide) (by decide) rfl ⟨rfl, rfl, rfl⟩ (by unfold allL; rw [hch, ← hv1]; rfl) ⟨rfl, rfl, rfl⟩ (by rw [HLN.out]; exact h1) h2 (by rw [HLN.out]; exact h3) h4
        have FK : Hid (∀ w2, ch = false → (c.a0 == 0) = false → Own w2 B 71 8 (some ⟨g, o, none⟩) n c0 (putL (lcells (mapK (allL c.a0) k cl)) (k * 8 + 7) [.bool false]) → wr.grownBy w2 (some g) → ∃ k' : Nat, k' ≤ n ∧ Value.int .i64 ((k : Int) + 1) = .int .i64 k' ∧ DSC Φ B q a.evs a.step (some ⟨g, o, none⟩) c0 (mapK (allL c.a0) k' cl) P a.ptr w w.heap.size c w2) := Lib.hid fun w2 e1 e2 h1 h2 => by
          refine ⟨k + 1, by omega, by simp, ?_⟩
          rw [← HFIN.out]
          refine HS.out.setL HX'.out (x' := allL c.a0 x) (j := 7) (cs := [.bool false]) (by simp) ?_ ⟨rfl, rfl, rfl⟩ (by rw [HLN.out]; exact h1) h2
          unfold allL
          rw [hch, e1, e2]
          rfl
        clear hS hx hx' hFIN hch hlen
        by_cases hv0 : c.a0 = 0
        · have e0 : (c.a0 == 0) = true := by rw [hv0]; rfl
          have e1 : (c.a0 == 1) = false := by rw [hv0]; rfl
          clear hv0
          cases ch
          all_goals
            go_wp2_with (first
              | (refine wpList_stO rfl 4 (.tmp 42) (.tmp 40) rfl (.bool false) (k * 8 + 6) (by first | rfl | (rw [← Nat.add_assoc]; rfl)) rfl row (by simp [Value.cells]; omega) (by kernel_rfl) (by simp [Value.cells, Value.oneCell']) ?_; intro w5 h5 g5)
              | (refine wpList_stO rfl 4 (.tmp 45) (.const (.bool false)) rfl (.bool false) (k * 8 + 7) (by first | rfl | (rw [← Nat.add_assoc]; rfl)) rfl h5 (by simp [Value.cells]; omega) (by kernel_rfl) (by simp [Value.cells, Value.oneCell']) ?_; intro w6 h6 g6))
            have FF := Lib.hid (FJ.out w5 w6 false (by rw [e0, e1]; simp) h5 g5 h6 g6)
            clear FJ FK
            go_roundw
            case rel => exact FF.out
            case measure => simp [intOf]; omega
        · have e0 : (c.a0 == 0) = false := beq_eq_false_iff_ne.2 hv0
          obtain ⟨b1, hb1⟩ : ∃ b1, (c.a0 == 1) = b1 := ⟨_, rfl⟩
          cases ch with
          | true =>
            go_wp2_with (first
              | (refine wpList_stO rfl 4 (.tmp 42) (.tmp 40) rfl (.bool b1) (k * 8 + 6) (by first | rfl | (rw [← Nat.add_assoc]; rfl)) rfl row (by simp [Value.cells]; omega) (by kernel_rfl) (by simp [Value.cells, Value.oneCell']) ?_; intro w5 h5 g5)
              | (refine wpList_stO rfl 4 (.tmp 45) (.const (.bool false)) rfl (.bool false) (k * 8 + 7) (by first | rfl | (rw [← Nat.add_assoc]; rfl)) rfl h5 (by simp [Value.cells]; omega) (by kernel_rfl) (by simp [Value.cells, Value.oneCell']) ?_; intro w6 h6 g6))
            have FF := Lib.hid (FJ.out w5 w6 b1 (by rw [hb1]; simp) h5 g5 h6 g6)
            clear FJ FK
            go_roundw
            case rel => exact FF.out
            case measure => simp [intOf]; omega
          | false =>
            go_wp2_with (refine wpList_stO rfl 4 (.tmp 45) (.const (.bool false)) rfl (.bool false) (k * 8 + 7) (by first | rfl | (rw [← Nat.add_assoc]; rfl)) rfl row (by simp [Value.cells]; omega) (by kernel_rfl) (by simp [Value.cells, Value.oneCell']) ?_; intro w6 h6 g6)
            have FF := Lib.hid (FK.out w6 rfl e0 h6 g6)
            clear FJ FK
            go_roundw
            case rel => exact FF.out
            case measure => simp [intOf]; omega
      · obtain rfl : k = n := by omega
        have FF : Hid (AnsP Φ B w q (allX a c).1 [] (allX a c).2 (.returned (.tuple #[.slice none 0 0, .int .i64 0])) wr) := Lib.hid (by
          rw [HE.out]
          refine AnsP.none_ (E := 0) Φ ⟨ok_same HOK.out (by rw [List.map_map]; rfl), A0, c0, cl.map (allL c.a0), P, by rw [all_abs, HAB.out], ?_⟩ hS.d.e
          have h1 := hS.d.x
          rw [← HL.out, mapK_all] at h1
          exact h1)
        clear hS
        go_wp2_with fail
        go_ret2
        exact FF.out
end Go.Proofs.Yteecgdbicokgoaa
