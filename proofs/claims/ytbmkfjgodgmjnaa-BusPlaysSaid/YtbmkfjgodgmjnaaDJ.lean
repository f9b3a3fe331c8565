/- BusPlays: the walk. -/
import Derived.Test.YtbmkfjgodgmjnaaDI
import Derived.Test.YtbmkfjgodgmjnaaConf
import Derived.Test.YtbmkfjgodgmjnaaChain
namespace Go.Proofs.Ytbmkfjgodgmjnaa
open Go.RowKit
set_option linter.unusedVariables false
set_option linter.unusedSimpArgs false
/-- From node k on both sides say the same. -/
def QG (q r : Nat → Nat) (k : Nat) (s t : Nat → Bx) : Prop := ∀ i, k ≤ i → i < 3 → s (q i) = (t (r i)).S
theorem qg_upd {q r : Nat → Nat} {k : Nat} {s t : Nat → Bx} (hq : inj3 q) (hr : inj3 r) (h : QG q r k s t) {i : Nat} (hi : i < 3) {a b : Bx} (hab : a = b.S) : QG q r k (upd s (q i) a) (upd t (r i) b) := fun j hk hj => by
  by_cases hji : j = i
  · subst hji
    rw [upd_eq, upd_eq, hab]
  · rw [upd_ne _ _ (fun e => hji (hq j i hj hi e)), upd_ne _ _ (fun e => hji (hr j i hj hi e))]
    exact h j hk hj
theorem qg_over {q r : Nat → Nat} {k : Nat} {s t : Nat → Bx} (hq : inj3 q) (h : QG q r k s t) (hk3 : k < 3) (a : Bx) : QG q r (k + 1) (upd s (q k) a) t := fun j hk hj => by
  rw [upd_ne _ _ (fun e => by have := hq j k hj hk3 e; omega)]
  exact h j (by omega) hj
/-- The state behind the acts. -/
def P2 (w : World) (q r : Nat → Nat) (A A' : Option Addr) (k : Nat) (w' : World) : Prop := ∃ s t, CH w [] [] q r A A' s t w' ∧ QG q r k s t
/-- The state between two acts. -/
def P1 (w : World) (q r : Nat → Nat) (A A' : Option Addr) (w' : World) : Prop := ∃ s t, CH w [] [] q r A A' s t w' ∧ Q3 q r s t
set_option maxRecDepth 100000 in
set_option maxHeartbeats 6000000 in
theorem busplays_any (Ad : Nat → Option Addr) (ns cs : Nat → Nat) (xs : Nat → List Flt) (A0 : Option Addr) (n c0 : Nat) (l : List Ab) (w : World)
    (hx : ∀ i, i < 3 → (xs i).length = ns i ∧ ns i ≤ cs i ∧ cs i ≤ maxLen ∧ (Ad i = none → ns i = 0 ∧ cs i = 0) ∧ Rd w w.heap.size (Ad i) (flcells (xs i)) ∧ ∀ x ∈ xs i, x.wf)
    (hl : l.length = n) (hn : n ≤ c0) (hc : c0 ≤ maxLen) (hA : A0 = none → n = 0 ∧ c0 = 0) (hrd : Rd w w.heap.size A0 (cellsB l)) (hwf : ∀ x ∈ l, x.wf) :
    Calls Try.prog 12 #[.agg #[.slice (Ad 0) (ns 0) (cs 0), .slice (Ad 1) (ns 1) (cs 1), .slice (Ad 2) (ns 2) (cs 2)], .slice A0 n c0] w fun e w' => e = .returned (.bool true) ∧ Below w.heap.size w w' := by
  have FW := fun w => fewb_any A0 n c0 w hn (Nat.le_trans hn hc) hA
  obtain ⟨N, hN⟩ : ∃ N, min n 60 = N := ⟨_, rfl⟩
  rw [hN] at FW
  have FW := Lib.hid FW
  have hNn : N ≤ n := by omega
  have hN60 : N ≤ 60 := by omega
  unfold maxLen at hc
  have HL := Lib.hid hl
  have HX := Lib.hid hx
  have HRD := Lib.hid hrd
  have HWF := Lib.hid hwf
  have HA := Lib.hid hA
  clear hx hl hrd hwf hN hA
  go_enter Try.func12, Try.ntmps12
  go_upto_region 1 with fail
  refine wp_named fun W hW => ?_
  obtain ⟨BX, hbW⟩ := blk1 (c1 := #[.slice (Ad 0) (ns 0) (cs 0), .slice (Ad 1) (ns 1) (cs 1), .slice (Ad 2) (ns 2) (cs 2)]) hW
  clear hW
  have hzW := hbW.size
  go_wp2_with fail
  refine (bshown_any _).mono ?_
  rintro e w1 ⟨rfl, b1⟩
  have hb1 := hbW.trans (b1.mono hzW)
  have bx1 := (BX.below b1).cell
  clear BX
  have NQ := Lib.hid (nodes_q w.heap.size w (fun _ => (0, 9)) w1 hb1.size (fun _ _ => rfl) (fun _ h => by simp at h) hb1 (Nat.le_refl _) Ad ns cs xs (fun i hi => by
    obtain ⟨h1, h2, h3, h4, h5, h6⟩ := HX.out i hi
    exact ⟨h1, h2, h3, h4, (h5.below hb1).more hb1.size, h6⟩))
  go_wp2_with fail
  refine NQ.out.mono ?_
  rintro e w2 ⟨A, c, q, A', c', r, s0, t0, Φ1, rfl, hc3, hcm, hc3', hcm', hq, hr, hs, ht, N1, hb2, hΦ⟩
  have HC1 : CH w [] [] q r A A' s0 t0 w2 := ⟨Φ1, N1, (fun k hk => by cases hk), fun k hk => by cases hk⟩
  have HQ0 : Q3 q r s0 t0 := fun i hi => by rw [hs i hi, ht i hi]; rfl
  obtain ⟨g, o, rfl⟩ := HC1.ad
  obtain ⟨g', o', rfl⟩ := HC1.rad
  have HR0 : Hid (P1 w q r (some ⟨g, o, none⟩) (some ⟨g', o', none⟩) w2) := Lib.hid ⟨s0, t0, HC1, HQ0⟩
  clear N1 hb2 hΦ hs ht HC1 HQ0 NQ bx1 hb1 b1 hzW hbW HX
  have hcI : (3 : Int) ≤ c := by omega
  have hcI' : (3 : Int) ≤ c' := by omega
  go_wp2_with fail
  refine (FW.out _).mono ?_
  rintro e w' ⟨rfl, rfl⟩
  clear FW
  go_wp2_with fail
  go_loopw [30] (fun iv wr => ∃ (k : Nat), k ≤ N ∧ iv = .int .i64 k ∧ P1 w q r (some ⟨g, o, none⟩) (some ⟨g', o', none⟩) wr) (fun iv _ => N - (intOf iv).toNat)
  case atStart => exact ⟨0, Nat.zero_le _, rfl, HR0.out⟩
  case round =>
    clear HR0
    obtain ⟨k, hk, rfl, s, t, hC, hQ⟩ := hrel
    by_cases hlt : k < N
    · have hlt' : (k : Int) < N := by omega
      obtain ⟨a, hta⟩ : ∃ t, l[k]? = some t := ⟨_, List.getElem?_eq_getElem (by rw [HL.out]; omega)⟩
      have ha := HWF.out a (List.mem_of_getElem? hta)
      have hne : cellsB l ≠ [] := by
        intro h
        have h2 := flatC_at Ab.cs 13 l (fun _ _ => rfl) k a hta 0 _ rfl
        rw [show flatC Ab.cs l = [] from h] at h2
        cases h2
      obtain ⟨gx, ox, ea, hbl, hcl⟩ := (HRD.out.below hC.bel) hne
      have hc' : ∀ i u, a.cs[i]? = some u → wr.cell? ⟨gx, ox + (k * 13 + i), none⟩ = some u := fun i u hu => hcl _ _ (flatC_at Ab.cs 13 l (fun _ _ => rfl) k a hta i u hu)
      have r0 := hc' 0 _ rfl
      have r1 := hc' 1 _ rfl
      have r2 := hc' 2 _ rfl
      have r3 := hc' 3 _ rfl
      have r4 := hc' 4 _ rfl
      have r5 := hc' 5 _ rfl
      have r6 := hc' 6 _ rfl
      have r7 := hc' 7 _ rfl
      have r8 := hc' 8 _ rfl
      have r9 := hc' 9 _ rfl
      have r10 := hc' 10 _ rfl
      have r11 := hc' 11 _ rfl
      have r12 := hc' 12 _ rfl
      rw [Nat.add_zero] at r0
      rw [← Nat.add_assoc] at r1 r2 r3 r4 r5 r6 r7 r8 r9 r10 r11 r12
      clear hc' hcl hta hne hbl
      subst ea
      have HCH := Lib.hid hC
      have HQ := Lib.hid hQ
      clear hC hQ
      go_upto_region 6 with fail
      refine wp_named fun W4 hW4 => ?_
      obtain ⟨BW, hbW4⟩ := blk1 (c1 := a.cs.toArray) hW4
      have C4 := HCH.out.new hbW4 BW (Nat.le_refl _)
      obtain ⟨ga, hga⟩ : ∃ ga, wr.heap.size = ga := ⟨_, rfl⟩
      rw [hga] at C4 ⊢
      have F1 := C4.first hc3 hcm
      obtain ⟨⟨i1, f, b1⟩, hF1⟩ : ∃ z, fstK (nodesL q) s 3 = z := ⟨_, rfl⟩
      rw [hF1] at F1
      have F1 := Lib.hid F1
      have C4 := Lib.hid C4
      clear hW4 BW hbW4 hga HCH r0 r1 r2 r3 r4 r5 r6 r7 r8 r9 r10 r11 r12
      go_wp2_with fail
      refine F1.out.mono ?_
      rintro e w5 ⟨rfl, b5⟩
      go_upto_region 7 with fail
      refine wp_named fun W5 hW5 => ?_
      obtain ⟨BF, hbW5⟩ := blk1 (c1 := f.cs.toArray) hW5
      have C5 := (C4.out.below b5).newm hbW5 BF (Nat.le_refl _)
      obtain ⟨gf, hgf⟩ : ∃ gf, w5.heap.size = gf := ⟨_, rfl⟩
      rw [hgf] at C5 ⊢
      have F2 := C5.rfirst hc3' hcm'
      rw [← q3_fst HQ.out 3 (Nat.le_refl _), hF1] at F2
      have F2 := Lib.hid F2
      have C5 := Lib.hid C5
      have hgf5 : gf < W5.heap.size := by have h := BF.lt; rw [hgf] at h; exact h
      clear hW5 BF hbW5 hgf C4 b5 F1 hF1
      go_wp2_with fail
      refine F2.out.mono ?_
      rintro e w6 ⟨rfl, b6⟩
      go_upto_region 8 with fail
      refine wp_named fun W6 hW6 => ?_
      obtain ⟨BG, hbW6⟩ := blk1 (c1 := f.cs.toArray) hW6
      have C6 := (C5.out.below b6).newm hbW6 BG (Nat.le_refl _)
      have hgfg : w6.heap.size ≠ gf := by have := b6.size; omega
      obtain ⟨gg, hgg⟩ : ∃ gg, w6.heap.size = gg := ⟨_, rfl⟩
      rw [hgg] at C6 hgfg ⊢
      have ac := (C6.blk (.head _)).cell
      have bfc := (C6.blkm (g := gf) (.tail _ (.head _))).cell
      have bgc := (C6.blkm (g := gg) (.head _)).cell
      have HC := Lib.hid C6
      have heq := fun w' => eq26_any f f w'
      rw [eqb_self'] at heq
      have hii1 : ((i1 : Int) != (i1 : Int)) = false := by simp
      have hbb1 : (b1 != b1) = false := by simp
      have FIN : Hid (∀ wx s t, CH w [] [] q r (some ⟨g, o, none⟩) (some ⟨g', o', none⟩) s t wx → Q3 q r s t → ∃ (j : Nat), j ≤ N ∧ Value.int .i64 ((k : Int) + 1) = .int .i64 j ∧ P1 w q r (some ⟨g, o, none⟩) (some ⟨g', o', none⟩) wx) := Lib.hid fun wx s t h1 h2 => ⟨k + 1, by omega, by simp, s, t, h1, h2⟩
      clear hW6 BG hbW6 hgg C5 C6 b6 F2 hgf5
      rcases (by have := ha.k0; omega : a.kind % 4 = 0 ∨ a.kind % 4 = 1 ∨ a.kind % 4 = 2 ∨ a.kind % 4 = 3) with hK | hK | hK | hK
      · have hKt : a.kind.tmod 4 = 0 := by rw [Int.tmod_eq_emod_of_nonneg ha.k0]; exact hK
        have kt0 : (a.kind.tmod 4 == 0) = true := by rw [hKt]; rfl
        have kt1 : (a.kind.tmod 4 == 1) = false := by rw [hKt]; rfl
        have kt2 : (a.kind.tmod 4 == 2) = false := by rw [hKt]; rfl
        have kt3 : (a.kind.tmod 4 == 3) = false := by rw [hKt]; rfl
        have k0 : (a.kind % 4 == 0) = true := by rw [hK]; rfl
        have k1 : (a.kind % 4 == 1) = false := by rw [hK]; rfl
        have k2 : (a.kind % 4 == 2) = false := by rw [hK]; rfl
        have k3 : (a.kind % 4 == 3) = false := by rw [hK]; rfl
        obtain ⟨I, hIe, hI⟩ : ∃ I : Nat, a.who % 3 = I ∧ I < 3 := ⟨(a.who % 3).toNat, by have := ha.w0; omega, by have := ha.w0; omega⟩
        have hII : (I : Int) < 3 := by omega
        have hIt : a.who.tmod 3 = (I : Int) := by rw [Int.tmod_eq_emod_of_nonneg ha.w0]; exact hIe
        obtain ⟨E, hE⟩ : ∃ E, sendE (t (r I)) a.f = E := ⟨_, rfl⟩
        have HE2 := Lib.hid hE
        have HE1 : Hid (sendE (s (q I)) a.f = E) := Lib.hid (by rw [HQ.out I hI, S_sendE, hE])
        have hEE : (E != E) = false := by simp
        clear hE
        have HRR : ∀ j w', (fun j w' => CH w [(ga, 74, a.cs.toArray)] [(gg, 26, f.cs.toArray), (gf, 26, f.cs.toArray)] q r (some ⟨g, o, none⟩) (some ⟨g', o', none⟩) (if j = 0 then s else (upd s (q I) (sendX (s (q I)) a.f))) (if j = 2 then (upd t (r I) (rsendX (t (r I)) a.f)) else t) w') j w' → (∀ i, w'.cell? ⟨ga, i, none⟩ = a.cs.toArray[i]?) ∧ w'.cell? ⟨g, o + I, none⟩ = some (.pointer (some ⟨q I, 0, none⟩)) ∧ w'.cell? ⟨g', o' + I, none⟩ = some (.pointer (some ⟨r I, 0, none⟩)) := fun j w' h => ⟨(h.blk (.head _)).cell, h.nc hI, h.rnc hI⟩
        go_wp2_with fail
        refine wp_region_s [8, 17] (fun j w' => CH w [(ga, 74, a.cs.toArray)] [(gg, 26, f.cs.toArray), (gf, 26, f.cs.toArray)] q r (some ⟨g, o, none⟩) (some ⟨g', o', none⟩) (if j = 0 then s else (upd s (q I) (sendX (s (q I)) a.f))) (if j = 2 then (upd t (r I) (rsendX (t (r I)) a.f)) else t) w') (by kernel_rfl) (by kernel_rfl) (HC.out.below (Below.refl _ _).drew) ?_
        first
          | (refine wpS_skip (by rfl) (by rfl) ?_; try simp only [Act.put, List.setIfInBounds_toArray, List.set_cons_zero, List.set_cons_succ, Nat.reduceAdd])
          | (refine wpS_val (v := ?_) HRR (by rfl) (by rfl) ?_ ?_; rotate_left; · (intro w' hS; go_simp; first | done | with_reducible rfl)
             try simp only [Act.put, List.setIfInBounds_toArray, List.set_cons_zero, List.set_cons_succ, Nat.reduceAdd])
        first
          | (refine wpS_skip (by rfl) (by rfl) ?_; try simp only [Act.put, List.setIfInBounds_toArray, List.set_cons_zero, List.set_cons_succ, Nat.reduceAdd])
          | (refine wpS_val (v := ?_) HRR (by rfl) (by rfl) ?_ ?_; rotate_left; · (intro w' hS; go_simp; first | done | with_reducible rfl)
             try simp only [Act.put, List.setIfInBounds_toArray, List.set_cons_zero, List.set_cons_succ, Nat.reduceAdd])
        first
          | (refine wpS_skip (by rfl) (by rfl) ?_; try simp only [Act.put, List.setIfInBounds_toArray, List.set_cons_zero, List.set_cons_succ, Nat.reduceAdd])
          | (refine wpS_val (v := ?_) HRR (by rfl) (by rfl) ?_ ?_; rotate_left; · (intro w' hS; go_simp; first | done | with_reducible rfl)
             try simp only [Act.put, List.setIfInBounds_toArray, List.set_cons_zero, List.set_cons_succ, Nat.reduceAdd])
        first
          | (refine wpS_skip (by rfl) (by rfl) ?_; try simp only [Act.put, List.setIfInBounds_toArray, List.set_cons_zero, List.set_cons_succ, Nat.reduceAdd])
          | (refine wpS_val (v := ?_) HRR (by rfl) (by rfl) ?_ ?_; rotate_left; · (intro w' hS; go_simp; first | done | with_reducible rfl)
             try simp only [Act.put, List.setIfInBounds_toArray, List.set_cons_zero, List.set_cons_succ, Nat.reduceAdd])
        first
          | (refine wpS_skip (by rfl) (by rfl) ?_; try simp only [Act.put, List.setIfInBounds_toArray, List.set_cons_zero, List.set_cons_succ, Nat.reduceAdd])
          | (refine wpS_val (v := ?_) HRR (by rfl) (by rfl) ?_ ?_; rotate_left; · (intro w' hS; go_simp; first | done | with_reducible rfl)
             try simp only [Act.put, List.setIfInBounds_toArray, List.set_cons_zero, List.set_cons_succ, Nat.reduceAdd])
        first
          | (refine wpS_skip (by rfl) (by rfl) ?_; try simp only [Act.put, List.setIfInBounds_toArray, List.set_cons_zero, List.set_cons_succ, Nat.reduceAdd])
          | (refine wpS_val (v := ?_) HRR (by rfl) (by rfl) ?_ ?_; rotate_left; · (intro w' hS; go_simp; first | done | with_reducible rfl)
             try simp only [Act.put, List.setIfInBounds_toArray, List.set_cons_zero, List.set_cons_succ, Nat.reduceAdd])
        first
          | (refine wpS_skip (by rfl) (by rfl) ?_; try simp only [Act.put, List.setIfInBounds_toArray, List.set_cons_zero, List.set_cons_succ, Nat.reduceAdd])
          | (refine wpS_val (v := ?_) HRR (by rfl) (by rfl) ?_ ?_; rotate_left; · (intro w' hS; go_simp; first | done | with_reducible rfl)
             try simp only [Act.put, List.setIfInBounds_toArray, List.set_cons_zero, List.set_cons_succ, Nat.reduceAdd])
        first
          | (refine wpS_skip (by rfl) (by rfl) ?_; try simp only [Act.put, List.setIfInBounds_toArray, List.set_cons_zero, List.set_cons_succ, Nat.reduceAdd])
          | (refine wpS_val (v := ?_) HRR (by rfl) (by rfl) ?_ ?_; rotate_left; · (intro w' hS; go_simp; first | done | with_reducible rfl)
             try simp only [Act.put, List.setIfInBounds_toArray, List.set_cons_zero, List.set_cons_succ, Nat.reduceAdd])
        first
          | (refine wpS_chain (v := ?_) (f := ?_) (args := ?_) 0 (by kernel_rfl) rfl (by intro p hp; first | omega | (obtain rfl : p = 0 := (by omega); exact ⟨_, rfl, by kernel_rfl⟩)) (of_decide_eq_true (by kernel_rfl)) (by rfl) HRR ?_ ?_ ?_; rotate_left 3
             · (intro w' hS; go_simp; first | done | (refine ⟨?_, ?_⟩ <;> with_reducible rfl) | with_reducible rfl)
             · (intro w' hS; have hS' : CH w [(ga, 74, a.cs.toArray)] [(gg, 26, f.cs.toArray), (gf, 26, f.cs.toArray)] q r (some ⟨g, o, none⟩) (some ⟨g', o', none⟩) s t w' := hS; have hc := hS'.send hI a.f ha.fw; rw [HE1.out] at hc; refine hc.mono ?_; rintro e w3 ⟨rfl, h3⟩; refine ⟨?_, h3⟩; with_reducible rfl)
             try simp only [Act.put, List.setIfInBounds_toArray, List.set_cons_zero, List.set_cons_succ, Nat.reduceAdd])
        first
          | (refine wpS_skip (by rfl) (by rfl) ?_; try simp only [Act.put, List.setIfInBounds_toArray, List.set_cons_zero, List.set_cons_succ, Nat.reduceAdd])
          | (refine wpS_val (v := ?_) HRR (by rfl) (by rfl) ?_ ?_; rotate_left; · (intro w' hS; go_simp; first | done | with_reducible rfl)
             try simp only [Act.put, List.setIfInBounds_toArray, List.set_cons_zero, List.set_cons_succ, Nat.reduceAdd])
        first
          | (refine wpS_skip (by rfl) (by rfl) ?_; try simp only [Act.put, List.setIfInBounds_toArray, List.set_cons_zero, List.set_cons_succ, Nat.reduceAdd])
          | (refine wpS_val (v := ?_) HRR (by rfl) (by rfl) ?_ ?_; rotate_left; · (intro w' hS; go_simp; first | done | with_reducible rfl)
             try simp only [Act.put, List.setIfInBounds_toArray, List.set_cons_zero, List.set_cons_succ, Nat.reduceAdd])
        first
          | (refine wpS_skip (by rfl) (by rfl) ?_; try simp only [Act.put, List.setIfInBounds_toArray, List.set_cons_zero, List.set_cons_succ, Nat.reduceAdd])
          | (refine wpS_val (v := ?_) HRR (by rfl) (by rfl) ?_ ?_; rotate_left; · (intro w' hS; go_simp; first | done | with_reducible rfl)
             try simp only [Act.put, List.setIfInBounds_toArray, List.set_cons_zero, List.set_cons_succ, Nat.reduceAdd])
        first
          | (refine wpS_skip (by rfl) (by rfl) ?_; try simp only [Act.put, List.setIfInBounds_toArray, List.set_cons_zero, List.set_cons_succ, Nat.reduceAdd])
          | (refine wpS_val (v := ?_) HRR (by rfl) (by rfl) ?_ ?_; rotate_left; · (intro w' hS; go_simp; first | done | with_reducible rfl)
             try simp only [Act.put, List.setIfInBounds_toArray, List.set_cons_zero, List.set_cons_succ, Nat.reduceAdd])
        first
          | (refine wpS_skip (by rfl) (by rfl) ?_; try simp only [Act.put, List.setIfInBounds_toArray, List.set_cons_zero, List.set_cons_succ, Nat.reduceAdd])
          | (refine wpS_val (v := ?_) HRR (by rfl) (by rfl) ?_ ?_; rotate_left; · (intro w' hS; go_simp; first | done | with_reducible rfl)
             try simp only [Act.put, List.setIfInBounds_toArray, List.set_cons_zero, List.set_cons_succ, Nat.reduceAdd])
        first
          | (refine wpS_skip (by rfl) (by rfl) ?_; try simp only [Act.put, List.setIfInBounds_toArray, List.set_cons_zero, List.set_cons_succ, Nat.reduceAdd])
          | (refine wpS_val (v := ?_) HRR (by rfl) (by rfl) ?_ ?_; rotate_left; · (intro w' hS; go_simp; first | done | with_reducible rfl)
             try simp only [Act.put, List.setIfInBounds_toArray, List.set_cons_zero, List.set_cons_succ, Nat.reduceAdd])
        first
          | (refine wpS_skip (by rfl) (by rfl) ?_; try simp only [Act.put, List.setIfInBounds_toArray, List.set_cons_zero, List.set_cons_succ, Nat.reduceAdd])
          | (refine wpS_val (v := ?_) HRR (by rfl) (by rfl) ?_ ?_; rotate_left; · (intro w' hS; go_simp; first | done | with_reducible rfl)
             try simp only [Act.put, List.setIfInBounds_toArray, List.set_cons_zero, List.set_cons_succ, Nat.reduceAdd])
        first
          | (refine wpS_skip (by rfl) (by rfl) ?_; try simp only [Act.put, List.setIfInBounds_toArray, List.set_cons_zero, List.set_cons_succ, Nat.reduceAdd])
          | (refine wpS_val (v := ?_) HRR (by rfl) (by rfl) ?_ ?_; rotate_left; · (intro w' hS; go_simp; first | done | with_reducible rfl)
             try simp only [Act.put, List.setIfInBounds_toArray, List.set_cons_zero, List.set_cons_succ, Nat.reduceAdd])
        first
          | (refine wpS_chain (v := ?_) (f := ?_) (args := ?_) 1 (by kernel_rfl) rfl (by intro p hp; first | omega | (obtain rfl : p = 0 := (by omega); exact ⟨_, rfl, by kernel_rfl⟩)) (of_decide_eq_true (by kernel_rfl)) (by rfl) HRR ?_ ?_ ?_; rotate_left 3
             · (intro w' hS; go_simp; first | done | (refine ⟨?_, ?_⟩ <;> with_reducible rfl) | with_reducible rfl)
             · (intro w' hS; have hS' : CH w [(ga, 74, a.cs.toArray)] [(gg, 26, f.cs.toArray), (gf, 26, f.cs.toArray)] q r (some ⟨g, o, none⟩) (some ⟨g', o', none⟩) (upd s (q I) (sendX (s (q I)) a.f)) t w' := hS; have hc := hS'.rsend hI a.f ha.fw; rw [HE2.out] at hc; refine hc.mono ?_; rintro e w3 ⟨rfl, h3⟩; refine ⟨?_, h3⟩; with_reducible rfl)
             try simp only [Act.put, List.setIfInBounds_toArray, List.set_cons_zero, List.set_cons_succ, Nat.reduceAdd])
        first
          | (refine wpS_skip (by rfl) (by rfl) ?_; try simp only [Act.put, List.setIfInBounds_toArray, List.set_cons_zero, List.set_cons_succ, Nat.reduceAdd])
          | (refine wpS_val (v := ?_) HRR (by rfl) (by rfl) ?_ ?_; rotate_left; · (intro w' hS; go_simp; first | done | with_reducible rfl)
             try simp only [Act.put, List.setIfInBounds_toArray, List.set_cons_zero, List.set_cons_succ, Nat.reduceAdd])
        refine wpS_done (by kernel_rfl) (fun w8 hS => ?_)
        have hS : CH w [(ga, 74, a.cs.toArray)] [(gg, 26, f.cs.toArray), (gf, 26, f.cs.toArray)] q r (some ⟨g, o, none⟩) (some ⟨g', o', none⟩) (upd s (q I) (sendX (s (q I)) a.f)) (upd t (r I) (rsendX (t (r I)) a.f)) w8 := hS
        have FF := Lib.hid (FIN.out w8 _ _ (hS.mono (fun _ h => by cases h) (fun _ h => by cases h)) (q3_upd hq hr HQ.out hI (by rw [HQ.out I hI, S_send])))
        clear FIN HRR hS HC
        go_wp2_with fail
        go_roundw
        case rel => exact FF.out
        case measure => simp [intOf]; omega
      · have hKt : a.kind.tmod 4 = 1 := by rw [Int.tmod_eq_emod_of_nonneg ha.k0]; exact hK
        have kt0 : (a.kind.tmod 4 == 0) = false := by rw [hKt]; rfl
        have kt1 : (a.kind.tmod 4 == 1) = true := by rw [hKt]; rfl
        have kt2 : (a.kind.tmod 4 == 2) = false := by rw [hKt]; rfl
        have kt3 : (a.kind.tmod 4 == 3) = false := by rw [hKt]; rfl
        have k0 : (a.kind % 4 == 0) = false := by rw [hK]; rfl
        have k1 : (a.kind % 4 == 1) = true := by rw [hK]; rfl
        have k2 : (a.kind % 4 == 2) = false := by rw [hK]; rfl
        have k3 : (a.kind % 4 == 3) = false := by rw [hK]; rfl
        obtain ⟨⟨i2, f2, b2⟩, hF2⟩ : ∃ z, turnV (nodesL r) (RS t) 3 = z := ⟨_, rfl⟩
        have TN := HC.out.turn false hc3 hcm
        rw [q3_turnV HQ.out, hF2] at TN
        have TN := Lib.hid TN
        have RT : Hid (∀ w' ms, CH w [(ga, 74, a.cs.toArray)] ms q r (some ⟨g, o, none⟩) (some ⟨g', o', none⟩) (turnS (nodesL q) s 3 false) t w' → _) := Lib.hid fun w' ms h => h.rturn hr false hc3' hcm'
        rw [hF2] at RT
        have HF2 := Lib.hid hF2
        have QT : Hid (∀ t2, RTurn r t false t2 → Q3 q r (turnS (nodesL q) s 3 false) t2) := Lib.hid fun t2 h => q3_turn hq hr HQ.out false h
        have heq2 := fun w' => eq26_any f2 f2 w'
        rw [eqb_self'] at heq2
        have hii : ((i2 : Int) != (i2 : Int)) = false := by simp
        have hbb : (b2 != b2) = false := by simp
        clear hF2
        go_wp2_with fail
        refine TN.out.mono ?_
        rintro e w5 ⟨rfl, h5⟩
        have ac5 := (h5.blk (.head _)).cell
        have bf5 := h5.blkm (g := gf) (.tail _ (.head _))
        go_upto_region 17 with (refine wpList_storeB rfl 26 (.tmp 11) (.tmp 94) rfl gf 26 _ f2.cs.toArray rfl rfl bf5 rfl (by kernel_rfl) (by simp [Value.oneCell']) ?_; intro w6 B6 hg6)
        have h6 := Lib.hid (CH.set (h5.mono (fun _ h => h) (ms' := [(gf, 26, f.cs.toArray), (gg, 26, f.cs.toArray)]) (fun m hm => by simp at hm; rcases hm with rfl | rfl; exact .tail _ (.head _); exact .head _)) B6 hg6 (fun m hm => by simp at hm; subst hm; exact hgfg))
        have RT6 := Lib.hid (RT.out w6 _ h6.out)
        have ac6 := (h6.out.blk (.head _)).cell
        clear TN h5 ac5 bf5 B6 hg6 RT
        go_wp2_with fail
        refine RT6.out.mono ?_
        rintro e w7 ⟨rfl, t2, ht2, h7⟩
        have ac7 := (h7.blk (.head _)).cell
        have bg7 := h7.blkm (g := gg) (.tail _ (.head _))
        go_upto_region 18 with (refine wpList_storeB rfl 26 (.tmp 14) (.tmp 104) rfl gg 26 _ f2.cs.toArray rfl rfl bg7 rfl (by kernel_rfl) (by simp [Value.oneCell']) ?_; intro w8 B8 hg8)
        have h8 := CH.set (h7.mono (fun _ h => h) (ms' := [(gg, 26, f.cs.toArray), (gf, 26, f2.cs.toArray)]) (fun m hm => by simp at hm; rcases hm with rfl | rfl; exact .tail _ (.head _); exact .head _)) B8 hg8 (fun m hm => by simp at hm; subst hm; exact fun e => hgfg e.symm)
        have ac8 := (h8.blk (.head _)).cell
        have bf8 := (h8.blkm (g := gf) (.tail _ (.head _))).cell
        have bg8 := (h8.blkm (g := gg) (.head _)).cell
        have FF := Lib.hid (FIN.out w8 _ _ (h8.mono (fun _ h => by cases h) (fun _ h => by cases h)) (QT.out t2 ht2))
        clear RT6 h6 h7 ac6 ac7 bg7 B8 hg8 h8 FIN ht2 HF2
        go_wp2_with fail
        go_roundw
        case rel => exact FF.out
        case measure => simp [intOf]; omega
      · have hKt : a.kind.tmod 4 = 2 := by rw [Int.tmod_eq_emod_of_nonneg ha.k0]; exact hK
        have kt0 : (a.kind.tmod 4 == 0) = false := by rw [hKt]; rfl
        have kt1 : (a.kind.tmod 4 == 1) = false := by rw [hKt]; rfl
        have kt2 : (a.kind.tmod 4 == 2) = true := by rw [hKt]; rfl
        have kt3 : (a.kind.tmod 4 == 3) = false := by rw [hKt]; rfl
        have k0 : (a.kind % 4 == 0) = false := by rw [hK]; rfl
        have k1 : (a.kind % 4 == 1) = false := by rw [hK]; rfl
        have k2 : (a.kind % 4 == 2) = true := by rw [hK]; rfl
        have k3 : (a.kind % 4 == 3) = false := by rw [hK]; rfl
        obtain ⟨⟨i2, f2, b2⟩, hF2⟩ : ∃ z, turnV (nodesL r) (RS t) 3 = z := ⟨_, rfl⟩
        have TN := HC.out.turn true hc3 hcm
        rw [q3_turnV HQ.out, hF2] at TN
        have TN := Lib.hid TN
        have RT : Hid (∀ w' ms, CH w [(ga, 74, a.cs.toArray)] ms q r (some ⟨g, o, none⟩) (some ⟨g', o', none⟩) (turnS (nodesL q) s 3 true) t w' → _) := Lib.hid fun w' ms h => h.rturn hr true hc3' hcm'
        rw [hF2] at RT
        have HF2 := Lib.hid hF2
        have QT : Hid (∀ t2, RTurn r t true t2 → Q3 q r (turnS (nodesL q) s 3 true) t2) := Lib.hid fun t2 h => q3_turn hq hr HQ.out true h
        have heq2 := fun w' => eq26_any f2 f2 w'
        rw [eqb_self'] at heq2
        have hii : ((i2 : Int) != (i2 : Int)) = false := by simp
        have hbb : (b2 != b2) = false := by simp
        clear hF2
        go_wp2_with fail
        refine TN.out.mono ?_
        rintro e w5 ⟨rfl, h5⟩
        have ac5 := (h5.blk (.head _)).cell
        have bf5 := h5.blkm (g := gf) (.tail _ (.head _))
        go_upto_region 17 with (refine wpList_storeB rfl 26 (.tmp 11) (.tmp 94) rfl gf 26 _ f2.cs.toArray rfl rfl bf5 rfl (by kernel_rfl) (by simp [Value.oneCell']) ?_; intro w6 B6 hg6)
        have h6 := Lib.hid (CH.set (h5.mono (fun _ h => h) (ms' := [(gf, 26, f.cs.toArray), (gg, 26, f.cs.toArray)]) (fun m hm => by simp at hm; rcases hm with rfl | rfl; exact .tail _ (.head _); exact .head _)) B6 hg6 (fun m hm => by simp at hm; subst hm; exact hgfg))
        have RT6 := Lib.hid (RT.out w6 _ h6.out)
        have ac6 := (h6.out.blk (.head _)).cell
        clear TN h5 ac5 bf5 B6 hg6 RT
        go_wp2_with fail
        refine RT6.out.mono ?_
        rintro e w7 ⟨rfl, t2, ht2, h7⟩
        have ac7 := (h7.blk (.head _)).cell
        have bg7 := h7.blkm (g := gg) (.tail _ (.head _))
        go_upto_region 18 with (refine wpList_storeB rfl 26 (.tmp 14) (.tmp 104) rfl gg 26 _ f2.cs.toArray rfl rfl bg7 rfl (by kernel_rfl) (by simp [Value.oneCell']) ?_; intro w8 B8 hg8)
        have h8 := CH.set (h7.mono (fun _ h => h) (ms' := [(gg, 26, f.cs.toArray), (gf, 26, f2.cs.toArray)]) (fun m hm => by simp at hm; rcases hm with rfl | rfl; exact .tail _ (.head _); exact .head _)) B8 hg8 (fun m hm => by simp at hm; subst hm; exact fun e => hgfg e.symm)
        have ac8 := (h8.blk (.head _)).cell
        have bf8 := (h8.blkm (g := gf) (.tail _ (.head _))).cell
        have bg8 := (h8.blkm (g := gg) (.head _)).cell
        have FF := Lib.hid (FIN.out w8 _ _ (h8.mono (fun _ h => by cases h) (fun _ h => by cases h)) (QT.out t2 ht2))
        clear RT6 h6 h7 ac6 ac7 bg7 B8 hg8 h8 FIN ht2 HF2
        go_wp2_with fail
        go_roundw
        case rel => exact FF.out
        case measure => simp [intOf]; omega
      · have hKt : a.kind.tmod 4 = 3 := by rw [Int.tmod_eq_emod_of_nonneg ha.k0]; exact hK
        have kt0 : (a.kind.tmod 4 == 0) = false := by rw [hKt]; rfl
        have kt1 : (a.kind.tmod 4 == 1) = false := by rw [hKt]; rfl
        have kt2 : (a.kind.tmod 4 == 2) = false := by rw [hKt]; rfl
        have kt3 : (a.kind.tmod 4 == 3) = true := by rw [hKt]; rfl
        have k0 : (a.kind % 4 == 0) = false := by rw [hK]; rfl
        have k1 : (a.kind % 4 == 1) = false := by rw [hK]; rfl
        have k2 : (a.kind % 4 == 2) = false := by rw [hK]; rfl
        have k3 : (a.kind % 4 == 3) = true := by rw [hK]; rfl
        obtain ⟨E, hE⟩ : ∃ E, (putK (nodesL r) t a.f 3).2 = E := ⟨_, rfl⟩
        have HE2 := Lib.hid hE
        have HE1 : Hid ((putK (nodesL q) s a.f 3).2 = E) := Lib.hid (by rw [(q3_put hq hr HQ.out a.f).1, hE])
        have hEE : ((E : Int) != (E : Int)) = false := by simp
        clear hE
        have HRR : ∀ j w', (fun j w' => CH w [(ga, 74, a.cs.toArray)] [(gg, 26, f.cs.toArray), (gf, 26, f.cs.toArray)] q r (some ⟨g, o, none⟩) (some ⟨g', o', none⟩) (if j = 0 then s else (putK (nodesL q) s a.f 3).1) (if j = 2 then (putK (nodesL r) t a.f 3).1 else t) w') j w' → ∀ i, w'.cell? ⟨ga, i, none⟩ = a.cs.toArray[i]? := fun j w' h => (h.blk (.head _)).cell
        go_wp2_with fail
        refine wp_region_s [3, 7] (fun j w' => CH w [(ga, 74, a.cs.toArray)] [(gg, 26, f.cs.toArray), (gf, 26, f.cs.toArray)] q r (some ⟨g, o, none⟩) (some ⟨g', o', none⟩) (if j = 0 then s else (putK (nodesL q) s a.f 3).1) (if j = 2 then (putK (nodesL r) t a.f 3).1 else t) w') (by kernel_rfl) (by kernel_rfl) (HC.out.below (Below.refl _ _).drew) ?_
        first
          | (refine wpS_skip (by rfl) (by rfl) ?_; try simp only [Act.put, List.setIfInBounds_toArray, List.set_cons_zero, List.set_cons_succ, Nat.reduceAdd])
          | (refine wpS_val (v := ?_) HRR (by rfl) (by rfl) ?_ ?_; rotate_left; · (intro w' hS; go_simp; first | done | with_reducible rfl)
             try simp only [Act.put, List.setIfInBounds_toArray, List.set_cons_zero, List.set_cons_succ, Nat.reduceAdd])
        first
          | (refine wpS_skip (by rfl) (by rfl) ?_; try simp only [Act.put, List.setIfInBounds_toArray, List.set_cons_zero, List.set_cons_succ, Nat.reduceAdd])
          | (refine wpS_val (v := ?_) HRR (by rfl) (by rfl) ?_ ?_; rotate_left; · (intro w' hS; go_simp; first | done | with_reducible rfl)
             try simp only [Act.put, List.setIfInBounds_toArray, List.set_cons_zero, List.set_cons_succ, Nat.reduceAdd])
        first
          | (refine wpS_skip (by rfl) (by rfl) ?_; try simp only [Act.put, List.setIfInBounds_toArray, List.set_cons_zero, List.set_cons_succ, Nat.reduceAdd])
          | (refine wpS_val (v := ?_) HRR (by rfl) (by rfl) ?_ ?_; rotate_left; · (intro w' hS; go_simp; first | done | with_reducible rfl)
             try simp only [Act.put, List.setIfInBounds_toArray, List.set_cons_zero, List.set_cons_succ, Nat.reduceAdd])
        first
          | (refine wpS_chain (v := ?_) (f := ?_) (args := ?_) 0 (by kernel_rfl) rfl (by intro p hp; first | omega | (obtain rfl : p = 0 := (by omega); exact ⟨_, rfl, by kernel_rfl⟩)) (of_decide_eq_true (by kernel_rfl)) (by rfl) HRR ?_ ?_ ?_; rotate_left 3
             · (intro w' hS; go_simp; first | done | (refine ⟨?_, ?_⟩ <;> with_reducible rfl) | with_reducible rfl)
             · (intro w' hS; have hS' : CH w [(ga, 74, a.cs.toArray)] [(gg, 26, f.cs.toArray), (gf, 26, f.cs.toArray)] q r (some ⟨g, o, none⟩) (some ⟨g', o', none⟩) s t w' := hS; have hc := hS'.put hc3 hcm a.f ha.fw; rw [HE1.out] at hc; refine hc.mono ?_; rintro e w3 ⟨rfl, h3⟩; refine ⟨?_, h3⟩; with_reducible rfl)
             try simp only [Act.put, List.setIfInBounds_toArray, List.set_cons_zero, List.set_cons_succ, Nat.reduceAdd])
        first
          | (refine wpS_skip (by rfl) (by rfl) ?_; try simp only [Act.put, List.setIfInBounds_toArray, List.set_cons_zero, List.set_cons_succ, Nat.reduceAdd])
          | (refine wpS_val (v := ?_) HRR (by rfl) (by rfl) ?_ ?_; rotate_left; · (intro w' hS; go_simp; first | done | with_reducible rfl)
             try simp only [Act.put, List.setIfInBounds_toArray, List.set_cons_zero, List.set_cons_succ, Nat.reduceAdd])
        first
          | (refine wpS_skip (by rfl) (by rfl) ?_; try simp only [Act.put, List.setIfInBounds_toArray, List.set_cons_zero, List.set_cons_succ, Nat.reduceAdd])
          | (refine wpS_val (v := ?_) HRR (by rfl) (by rfl) ?_ ?_; rotate_left; · (intro w' hS; go_simp; first | done | with_reducible rfl)
             try simp only [Act.put, List.setIfInBounds_toArray, List.set_cons_zero, List.set_cons_succ, Nat.reduceAdd])
        first
          | (refine wpS_skip (by rfl) (by rfl) ?_; try simp only [Act.put, List.setIfInBounds_toArray, List.set_cons_zero, List.set_cons_succ, Nat.reduceAdd])
          | (refine wpS_val (v := ?_) HRR (by rfl) (by rfl) ?_ ?_; rotate_left; · (intro w' hS; go_simp; first | done | with_reducible rfl)
             try simp only [Act.put, List.setIfInBounds_toArray, List.set_cons_zero, List.set_cons_succ, Nat.reduceAdd])
        first
          | (refine wpS_chain (v := ?_) (f := ?_) (args := ?_) 1 (by kernel_rfl) rfl (by intro p hp; first | omega | (obtain rfl : p = 0 := (by omega); exact ⟨_, rfl, by kernel_rfl⟩)) (of_decide_eq_true (by kernel_rfl)) (by rfl) HRR ?_ ?_ ?_; rotate_left 3
             · (intro w' hS; go_simp; first | done | (refine ⟨?_, ?_⟩ <;> with_reducible rfl) | with_reducible rfl)
             · (intro w' hS; have hS' : CH w [(ga, 74, a.cs.toArray)] [(gg, 26, f.cs.toArray), (gf, 26, f.cs.toArray)] q r (some ⟨g, o, none⟩) (some ⟨g', o', none⟩) (putK (nodesL q) s a.f 3).1 t w' := hS; have hc := hS'.rput hc3' hcm' a.f ha.fw; rw [HE2.out] at hc; refine hc.mono ?_; rintro e w3 ⟨rfl, t2, rfl, h3⟩; refine ⟨?_, h3⟩; with_reducible rfl)
             try simp only [Act.put, List.setIfInBounds_toArray, List.set_cons_zero, List.set_cons_succ, Nat.reduceAdd])
        first
          | (refine wpS_skip (by rfl) (by rfl) ?_; try simp only [Act.put, List.setIfInBounds_toArray, List.set_cons_zero, List.set_cons_succ, Nat.reduceAdd])
          | (refine wpS_val (v := ?_) HRR (by rfl) (by rfl) ?_ ?_; rotate_left; · (intro w' hS; go_simp; first | done | with_reducible rfl)
             try simp only [Act.put, List.setIfInBounds_toArray, List.set_cons_zero, List.set_cons_succ, Nat.reduceAdd])
        refine wpS_done (by kernel_rfl) (fun w8 hS => ?_)
        have hS : CH w [(ga, 74, a.cs.toArray)] [(gg, 26, f.cs.toArray), (gf, 26, f.cs.toArray)] q r (some ⟨g, o, none⟩) (some ⟨g', o', none⟩) (putK (nodesL q) s a.f 3).1 (putK (nodesL r) t a.f 3).1 w8 := hS
        have FF := Lib.hid (FIN.out w8 _ _ (hS.mono (fun _ h => by cases h) (fun _ h => by cases h)) (q3_put hq hr HQ.out a.f).2)
        clear FIN HRR hS HC
        go_wp2_with fail
        go_roundw
        case rel => exact FF.out
        case measure => simp [intOf]; omega
    · obtain rfl : k = N := by omega
      have HR0 : Hid (P2 w q r (some ⟨g, o, none⟩) (some ⟨g', o', none⟩) 0 wr) := Lib.hid ⟨s, t, hC, fun i _ hi => hQ i hi⟩
      clear hC hQ HL HRD HWF HA
      go_wp2_with fail
      go_loopw [133] (fun iv wr => ∃ (i : Nat), i ≤ 3 ∧ iv = .int .i64 i ∧ P2 w q r (some ⟨g, o, none⟩) (some ⟨g', o', none⟩) i wr) (fun iv _ => 3 - (intOf iv).toNat)
      case atStart => exact ⟨0, by decide, rfl, HR0.out⟩
      case round =>
        clear HR0
        obtain ⟨i, hi, rfl, hP⟩ := hrel
        by_cases hi3 : i < 3
        · have hiI : (i : Int) < 3 := by omega
          have HP := Lib.hid hP
          clear hP
          go_wp2_with fail
          go_loopw [136] (fun jv wr => ∃ (j : Nat), j ≤ 5 ∧ jv = .int .i64 j ∧ P2 w q r (some ⟨g, o, none⟩) (some ⟨g', o', none⟩) i wr) (fun jv _ => 5 - (intOf jv).toNat)
          case atStart => exact ⟨0, by decide, rfl, HP.out⟩
          case round =>
            clear HP
            obtain ⟨j, hj, rfl, s, t, hC, hQ⟩ := hrel
            by_cases hj5 : j < 5
            · have hjI : (j : Int) < 5 := by omega
              have hst := hQ i (Nat.le_refl _) hi3
              have D1 := hC.recv hi3
              have nc := hC.nc hi3
              rw [show (s (q i)).rx = (t (r i)).rx from by rw [hst]; rfl] at D1
              obtain ⟨x, hx⟩ : ∃ x, (t (r i)).rx.headD Fr.none_ = x := ⟨_, rfl⟩
              obtain ⟨ie, hie⟩ : ∃ ie, (!(t (r i)).rx.isEmpty) = ie := ⟨_, rfl⟩
              have RR : ∀ s2 ms w', CH w [] ms q r (some ⟨g, o, none⟩) (some ⟨g', o', none⟩) s2 t w' → _ := fun s2 ms w' h => h.rrecv hi3
              rw [hx, hie] at D1 RR
              have RR := Lib.hid RR
              have D1 := Lib.hid D1
              have heq := fun w' => eq26_any x x w'
              rw [eqb_self'] at heq
              have hii : (ie != ie) = false := by simp
              have HQ2 : Hid (QG q r i (upd s (q i) { s (q i) with rx := (t (r i)).rx.tail }) (upd t (r i) { t (r i) with rx := (t (r i)).rx.tail })) := Lib.hid (qg_upd hq hr hQ hi3 (by rw [hst]; rfl))
              clear hx hie hst hQ hC
              go_wp2_with fail
              refine D1.out.mono ?_
              rintro e w4 ⟨rfl, M4⟩
              go_upto_region 30 with fail
              refine wp_named fun W4 hW4 => ?_
              obtain ⟨BX4, hbW4⟩ := blk1 (c1 := x.cs.toArray) hW4
              have M5 := M4.newm hbW4 BX4 (Nat.le_refl _)
              have nc2 := M5.rnc hi3
              have R5 := Lib.hid (RR.out _ _ _ M5)
              obtain ⟨g4, hg4⟩ : ∃ g4, w4.heap.size = g4 := ⟨_, rfl⟩
              rw [hg4] at R5 ⊢
              clear hW4 BX4 hbW4 M4 M5 D1 RR hg4
              go_wp2_with fail
              refine R5.out.mono ?_
              rintro e w5 ⟨rfl, M6⟩
              have b6 := bl1 w5 (.cells x.cs.toArray 26)
              have b5 := ((M6.below b6).blkm (g := g4) (.head _)).cell
              have FF : Hid (∃ (j' : Nat), j' ≤ 5 ∧ Value.int .i64 ((j : Int) + 1) = .int .i64 j' ∧ P2 w q r (some ⟨g, o, none⟩) (some ⟨g', o', none⟩) i (w5.alloc (.cells x.cs.toArray 26))) := Lib.hid ⟨j + 1, by omega, by simp, _, _, (M6.below b6).mono (fun _ h => h) (fun _ h => by cases h), HQ2.out⟩
              clear R5 M6 HQ2
              go_wp2_with fail
              go_roundw
              case rel => exact FF.out
              case measure => simp [intOf]; omega
            · obtain rfl : j = 5 := by omega
              have hst := hQ i (Nat.le_refl _) hi3
              obtain ⟨A2, n2, c2, A3, c3, A4, n4, c4, hB⟩ := hC.chb hi3
              obtain ⟨m, hm⟩ : ∃ m, (t (r i)).tx.length = m := ⟨_, rfl⟩
              obtain ⟨ls, hls⟩ : ∃ ls, (t (r i)).lost = ls := ⟨_, rfl⟩
              have hm3 := (hC.wf hi3).2.t3
              rw [hm, hls] at hB
              rw [hm] at hm3
              have hm3' : (m : Int) ≤ 3 := by omega
              have hmm : ((m : Int) != (m : Int)) = false := by simp
              have hll : (ls != ls) = false := by simp
              have hsm : (s (q i)).tx.length = m := by rw [hst]; exact (sent_length _).trans hm
              have hsl : Hid ((s (q i)).lost = ls) := Lib.hid (by rw [hst]; exact hls)
              have WT : Hid (∀ j w', (fun j w' => CHB w [] [] q r (some ⟨g, o, none⟩) (some ⟨g', o', none⟩) i #[.slice A2 n2 c2, .slice A3 m c3, .slice A4 n4 c4, .bool ls] (if j = 0 then s else upd s (q i) { s (q i) with lost := false }) t w') j w' → Calls Try.prog 21 #[.pointer (some ⟨q i, 0, none⟩)] w' fun e w2 => e = .returned (.int .i64 m) ∧ w' = w2) := Lib.hid fun j w' h => by
                have hw := (CHB.ch h).wait hi3
                have e : ((if j = 0 then s else upd s (q i) { s (q i) with lost := false }) (q i)).tx.length = m := by
                  split
                  · exact hsm
                  · rw [upd_eq]; exact hsm
                rw [e] at hw
                exact hw
              have HRR : ∀ j w', (fun j w' => CHB w [] [] q r (some ⟨g, o, none⟩) (some ⟨g', o', none⟩) i #[.slice A2 n2 c2, .slice A3 m c3, .slice A4 n4 c4, .bool ls] (if j = 0 then s else upd s (q i) { s (q i) with lost := false }) t w') j w' → (∀ j, w'.cell? ⟨r i, j, none⟩ = (#[.slice A2 n2 c2, .slice A3 m c3, .slice A4 n4 c4, .bool ls] : Array Value)[j]?) ∧ w'.cell? ⟨g, o + i, none⟩ = some (.pointer (some ⟨q i, 0, none⟩)) ∧ w'.cell? ⟨g', o' + i, none⟩ = some (.pointer (some ⟨r i, 0, none⟩)) := fun j w' h => ⟨(CHB.blk h).cell, (CHB.ch h).nc hi3, (CHB.ch h).rnc hi3⟩
              have HB := Lib.hid hB
              have HQH := Lib.hid hQ
              clear hB hQ hC hst hm hls hsm
              go_wp2_with fail
              refine wp_region_s [19] (fun j w' => CHB w [] [] q r (some ⟨g, o, none⟩) (some ⟨g', o', none⟩) i #[.slice A2 n2 c2, .slice A3 m c3, .slice A4 n4 c4, .bool ls] (if j = 0 then s else upd s (q i) { s (q i) with lost := false }) t w') (by kernel_rfl) (by kernel_rfl) (HB.out.below (Below.refl _ _).drew) ?_
              first
                | (refine wpS_skip (by rfl) (by rfl) ?_; try simp only [Act.put, List.setIfInBounds_toArray, List.set_cons_zero, List.set_cons_succ, Nat.reduceAdd])
                | (refine wpS_val (v := ?_) HRR (by rfl) (by rfl) ?_ ?_; rotate_left; · (intro w' hS; go_simp; first | done | with_reducible rfl)
                   try simp only [Act.put, List.setIfInBounds_toArray, List.set_cons_zero, List.set_cons_succ, Nat.reduceAdd])
                | (refine wpS_call (v := ?_) (f := ?_) (args := ?_) HRR (by rfl) (by rfl) ?_ ?_ ?_; rotate_left 3
                   · (intro w' hS; go_simp; first | done | (refine ⟨?_, ?_⟩ <;> with_reducible rfl) | with_reducible rfl)
                   · (intro s w' hS; first
                       | (refine (WT.out s w' hS).mono ?_; rintro e w2 ⟨rfl, rfl⟩; refine ⟨?_, hS⟩; with_reducible rfl))
                   try simp only [Act.put, List.setIfInBounds_toArray, List.set_cons_zero, List.set_cons_succ, Nat.reduceAdd])
              first
                | (refine wpS_skip (by rfl) (by rfl) ?_; try simp only [Act.put, List.setIfInBounds_toArray, List.set_cons_zero, List.set_cons_succ, Nat.reduceAdd])
                | (refine wpS_val (v := ?_) HRR (by rfl) (by rfl) ?_ ?_; rotate_left; · (intro w' hS; go_simp; first | done | with_reducible rfl)
                   try simp only [Act.put, List.setIfInBounds_toArray, List.set_cons_zero, List.set_cons_succ, Nat.reduceAdd])
                | (refine wpS_call (v := ?_) (f := ?_) (args := ?_) HRR (by rfl) (by rfl) ?_ ?_ ?_; rotate_left 3
                   · (intro w' hS; go_simp; first | done | (refine ⟨?_, ?_⟩ <;> with_reducible rfl) | with_reducible rfl)
                   · (intro s w' hS; first
                       | (refine (WT.out s w' hS).mono ?_; rintro e w2 ⟨rfl, rfl⟩; refine ⟨?_, hS⟩; with_reducible rfl))
                   try simp only [Act.put, List.setIfInBounds_toArray, List.set_cons_zero, List.set_cons_succ, Nat.reduceAdd])
              first
                | (refine wpS_skip (by rfl) (by rfl) ?_; try simp only [Act.put, List.setIfInBounds_toArray, List.set_cons_zero, List.set_cons_succ, Nat.reduceAdd])
                | (refine wpS_val (v := ?_) HRR (by rfl) (by rfl) ?_ ?_; rotate_left; · (intro w' hS; go_simp; first | done | with_reducible rfl)
                   try simp only [Act.put, List.setIfInBounds_toArray, List.set_cons_zero, List.set_cons_succ, Nat.reduceAdd])
                | (refine wpS_call (v := ?_) (f := ?_) (args := ?_) HRR (by rfl) (by rfl) ?_ ?_ ?_; rotate_left 3
                   · (intro w' hS; go_simp; first | done | (refine ⟨?_, ?_⟩ <;> with_reducible rfl) | with_reducible rfl)
                   · (intro s w' hS; first
                       | (refine (WT.out s w' hS).mono ?_; rintro e w2 ⟨rfl, rfl⟩; refine ⟨?_, hS⟩; with_reducible rfl))
                   try simp only [Act.put, List.setIfInBounds_toArray, List.set_cons_zero, List.set_cons_succ, Nat.reduceAdd])
              first
                | (refine wpS_skip (by rfl) (by rfl) ?_; try simp only [Act.put, List.setIfInBounds_toArray, List.set_cons_zero, List.set_cons_succ, Nat.reduceAdd])
                | (refine wpS_val (v := ?_) HRR (by rfl) (by rfl) ?_ ?_; rotate_left; · (intro w' hS; go_simp; first | done | with_reducible rfl)
                   try simp only [Act.put, List.setIfInBounds_toArray, List.set_cons_zero, List.set_cons_succ, Nat.reduceAdd])
                | (refine wpS_call (v := ?_) (f := ?_) (args := ?_) HRR (by rfl) (by rfl) ?_ ?_ ?_; rotate_left 3
                   · (intro w' hS; go_simp; first | done | (refine ⟨?_, ?_⟩ <;> with_reducible rfl) | with_reducible rfl)
                   · (intro s w' hS; first
                       | (refine (WT.out s w' hS).mono ?_; rintro e w2 ⟨rfl, rfl⟩; refine ⟨?_, hS⟩; with_reducible rfl))
                   try simp only [Act.put, List.setIfInBounds_toArray, List.set_cons_zero, List.set_cons_succ, Nat.reduceAdd])
              first
                | (refine wpS_skip (by rfl) (by rfl) ?_; try simp only [Act.put, List.setIfInBounds_toArray, List.set_cons_zero, List.set_cons_succ, Nat.reduceAdd])
                | (refine wpS_val (v := ?_) HRR (by rfl) (by rfl) ?_ ?_; rotate_left; · (intro w' hS; go_simp; first | done | with_reducible rfl)
                   try simp only [Act.put, List.setIfInBounds_toArray, List.set_cons_zero, List.set_cons_succ, Nat.reduceAdd])
                | (refine wpS_call (v := ?_) (f := ?_) (args := ?_) HRR (by rfl) (by rfl) ?_ ?_ ?_; rotate_left 3
                   · (intro w' hS; go_simp; first | done | (refine ⟨?_, ?_⟩ <;> with_reducible rfl) | with_reducible rfl)
                   · (intro s w' hS; first
                       | (refine (WT.out s w' hS).mono ?_; rintro e w2 ⟨rfl, rfl⟩; refine ⟨?_, hS⟩; with_reducible rfl))
                   try simp only [Act.put, List.setIfInBounds_toArray, List.set_cons_zero, List.set_cons_succ, Nat.reduceAdd])
              first
                | (refine wpS_skip (by rfl) (by rfl) ?_; try simp only [Act.put, List.setIfInBounds_toArray, List.set_cons_zero, List.set_cons_succ, Nat.reduceAdd])
                | (refine wpS_val (v := ?_) HRR (by rfl) (by rfl) ?_ ?_; rotate_left; · (intro w' hS; go_simp; first | done | with_reducible rfl)
                   try simp only [Act.put, List.setIfInBounds_toArray, List.set_cons_zero, List.set_cons_succ, Nat.reduceAdd])
                | (refine wpS_call (v := ?_) (f := ?_) (args := ?_) HRR (by rfl) (by rfl) ?_ ?_ ?_; rotate_left 3
                   · (intro w' hS; go_simp; first | done | (refine ⟨?_, ?_⟩ <;> with_reducible rfl) | with_reducible rfl)
                   · (intro s w' hS; first
                       | (refine (WT.out s w' hS).mono ?_; rintro e w2 ⟨rfl, rfl⟩; refine ⟨?_, hS⟩; with_reducible rfl))
                   try simp only [Act.put, List.setIfInBounds_toArray, List.set_cons_zero, List.set_cons_succ, Nat.reduceAdd])
              first
                | (refine wpS_skip (by rfl) (by rfl) ?_; try simp only [Act.put, List.setIfInBounds_toArray, List.set_cons_zero, List.set_cons_succ, Nat.reduceAdd])
                | (refine wpS_val (v := ?_) HRR (by rfl) (by rfl) ?_ ?_; rotate_left; · (intro w' hS; go_simp; first | done | with_reducible rfl)
                   try simp only [Act.put, List.setIfInBounds_toArray, List.set_cons_zero, List.set_cons_succ, Nat.reduceAdd])
                | (refine wpS_call (v := ?_) (f := ?_) (args := ?_) HRR (by rfl) (by rfl) ?_ ?_ ?_; rotate_left 3
                   · (intro w' hS; go_simp; first | done | (refine ⟨?_, ?_⟩ <;> with_reducible rfl) | with_reducible rfl)
                   · (intro s w' hS; first
                       | (refine (WT.out s w' hS).mono ?_; rintro e w2 ⟨rfl, rfl⟩; refine ⟨?_, hS⟩; with_reducible rfl))
                   try simp only [Act.put, List.setIfInBounds_toArray, List.set_cons_zero, List.set_cons_succ, Nat.reduceAdd])
              first
                | (refine wpS_skip (by rfl) (by rfl) ?_; try simp only [Act.put, List.setIfInBounds_toArray, List.set_cons_zero, List.set_cons_succ, Nat.reduceAdd])
                | (refine wpS_val (v := ?_) HRR (by rfl) (by rfl) ?_ ?_; rotate_left; · (intro w' hS; go_simp; first | done | with_reducible rfl)
                   try simp only [Act.put, List.setIfInBounds_toArray, List.set_cons_zero, List.set_cons_succ, Nat.reduceAdd])
                | (refine wpS_call (v := ?_) (f := ?_) (args := ?_) HRR (by rfl) (by rfl) ?_ ?_ ?_; rotate_left 3
                   · (intro w' hS; go_simp; first | done | (refine ⟨?_, ?_⟩ <;> with_reducible rfl) | with_reducible rfl)
                   · (intro s w' hS; first
                       | (refine (WT.out s w' hS).mono ?_; rintro e w2 ⟨rfl, rfl⟩; refine ⟨?_, hS⟩; with_reducible rfl))
                   try simp only [Act.put, List.setIfInBounds_toArray, List.set_cons_zero, List.set_cons_succ, Nat.reduceAdd])
              first
                | (refine wpS_skip (by rfl) (by rfl) ?_; try simp only [Act.put, List.setIfInBounds_toArray, List.set_cons_zero, List.set_cons_succ, Nat.reduceAdd])
                | (refine wpS_val (v := ?_) HRR (by rfl) (by rfl) ?_ ?_; rotate_left; · (intro w' hS; go_simp; first | done | with_reducible rfl)
                   try simp only [Act.put, List.setIfInBounds_toArray, List.set_cons_zero, List.set_cons_succ, Nat.reduceAdd])
                | (refine wpS_call (v := ?_) (f := ?_) (args := ?_) HRR (by rfl) (by rfl) ?_ ?_ ?_; rotate_left 3
                   · (intro w' hS; go_simp; first | done | (refine ⟨?_, ?_⟩ <;> with_reducible rfl) | with_reducible rfl)
                   · (intro s w' hS; first
                       | (refine (WT.out s w' hS).mono ?_; rintro e w2 ⟨rfl, rfl⟩; refine ⟨?_, hS⟩; with_reducible rfl))
                   try simp only [Act.put, List.setIfInBounds_toArray, List.set_cons_zero, List.set_cons_succ, Nat.reduceAdd])
              first
                | (refine wpS_skip (by rfl) (by rfl) ?_; try simp only [Act.put, List.setIfInBounds_toArray, List.set_cons_zero, List.set_cons_succ, Nat.reduceAdd])
                | (refine wpS_val (v := ?_) HRR (by rfl) (by rfl) ?_ ?_; rotate_left; · (intro w' hS; go_simp; first | done | with_reducible rfl)
                   try simp only [Act.put, List.setIfInBounds_toArray, List.set_cons_zero, List.set_cons_succ, Nat.reduceAdd])
                | (refine wpS_call (v := ?_) (f := ?_) (args := ?_) HRR (by rfl) (by rfl) ?_ ?_ ?_; rotate_left 3
                   · (intro w' hS; go_simp; first | done | (refine ⟨?_, ?_⟩ <;> with_reducible rfl) | with_reducible rfl)
                   · (intro s w' hS; first
                       | (refine (WT.out s w' hS).mono ?_; rintro e w2 ⟨rfl, rfl⟩; refine ⟨?_, hS⟩; with_reducible rfl))
                   try simp only [Act.put, List.setIfInBounds_toArray, List.set_cons_zero, List.set_cons_succ, Nat.reduceAdd])
              first
                | (refine wpS_skip (by rfl) (by rfl) ?_; try simp only [Act.put, List.setIfInBounds_toArray, List.set_cons_zero, List.set_cons_succ, Nat.reduceAdd])
                | (refine wpS_val (v := ?_) HRR (by rfl) (by rfl) ?_ ?_; rotate_left; · (intro w' hS; go_simp; first | done | with_reducible rfl)
                   try simp only [Act.put, List.setIfInBounds_toArray, List.set_cons_zero, List.set_cons_succ, Nat.reduceAdd])
                | (refine wpS_call (v := ?_) (f := ?_) (args := ?_) HRR (by rfl) (by rfl) ?_ ?_ ?_; rotate_left 3
                   · (intro w' hS; go_simp; first | done | (refine ⟨?_, ?_⟩ <;> with_reducible rfl) | with_reducible rfl)
                   · (intro s w' hS; first
                       | (refine (WT.out s w' hS).mono ?_; rintro e w2 ⟨rfl, rfl⟩; refine ⟨?_, hS⟩; with_reducible rfl))
                   try simp only [Act.put, List.setIfInBounds_toArray, List.set_cons_zero, List.set_cons_succ, Nat.reduceAdd])
              first
                | (refine wpS_skip (by rfl) (by rfl) ?_; try simp only [Act.put, List.setIfInBounds_toArray, List.set_cons_zero, List.set_cons_succ, Nat.reduceAdd])
                | (refine wpS_val (v := ?_) HRR (by rfl) (by rfl) ?_ ?_; rotate_left; · (intro w' hS; go_simp; first | done | with_reducible rfl)
                   try simp only [Act.put, List.setIfInBounds_toArray, List.set_cons_zero, List.set_cons_succ, Nat.reduceAdd])
                | (refine wpS_call (v := ?_) (f := ?_) (args := ?_) HRR (by rfl) (by rfl) ?_ ?_ ?_; rotate_left 3
                   · (intro w' hS; go_simp; first | done | (refine ⟨?_, ?_⟩ <;> with_reducible rfl) | with_reducible rfl)
                   · (intro s w' hS; first
                       | (refine (WT.out s w' hS).mono ?_; rintro e w2 ⟨rfl, rfl⟩; refine ⟨?_, hS⟩; with_reducible rfl))
                   try simp only [Act.put, List.setIfInBounds_toArray, List.set_cons_zero, List.set_cons_succ, Nat.reduceAdd])
              first
                | (refine wpS_skip (by rfl) (by rfl) ?_; try simp only [Act.put, List.setIfInBounds_toArray, List.set_cons_zero, List.set_cons_succ, Nat.reduceAdd])
                | (refine wpS_val (v := ?_) HRR (by rfl) (by rfl) ?_ ?_; rotate_left; · (intro w' hS; go_simp; first | done | with_reducible rfl)
                   try simp only [Act.put, List.setIfInBounds_toArray, List.set_cons_zero, List.set_cons_succ, Nat.reduceAdd])
                | (refine wpS_call (v := ?_) (f := ?_) (args := ?_) HRR (by rfl) (by rfl) ?_ ?_ ?_; rotate_left 3
                   · (intro w' hS; go_simp; first | done | (refine ⟨?_, ?_⟩ <;> with_reducible rfl) | with_reducible rfl)
                   · (intro s w' hS; first
                       | (refine (WT.out s w' hS).mono ?_; rintro e w2 ⟨rfl, rfl⟩; refine ⟨?_, hS⟩; with_reducible rfl))
                   try simp only [Act.put, List.setIfInBounds_toArray, List.set_cons_zero, List.set_cons_succ, Nat.reduceAdd])
              first
                | (refine wpS_skip (by rfl) (by rfl) ?_; try simp only [Act.put, List.setIfInBounds_toArray, List.set_cons_zero, List.set_cons_succ, Nat.reduceAdd])
                | (refine wpS_val (v := ?_) HRR (by rfl) (by rfl) ?_ ?_; rotate_left; · (intro w' hS; go_simp; first | done | with_reducible rfl)
                   try simp only [Act.put, List.setIfInBounds_toArray, List.set_cons_zero, List.set_cons_succ, Nat.reduceAdd])
                | (refine wpS_call (v := ?_) (f := ?_) (args := ?_) HRR (by rfl) (by rfl) ?_ ?_ ?_; rotate_left 3
                   · (intro w' hS; go_simp; first | done | (refine ⟨?_, ?_⟩ <;> with_reducible rfl) | with_reducible rfl)
                   · (intro s w' hS; first
                       | (refine (WT.out s w' hS).mono ?_; rintro e w2 ⟨rfl, rfl⟩; refine ⟨?_, hS⟩; with_reducible rfl))
                   try simp only [Act.put, List.setIfInBounds_toArray, List.set_cons_zero, List.set_cons_succ, Nat.reduceAdd])
              first
                | (refine wpS_skip (by rfl) (by rfl) ?_; try simp only [Act.put, List.setIfInBounds_toArray, List.set_cons_zero, List.set_cons_succ, Nat.reduceAdd])
                | (refine wpS_val (v := ?_) HRR (by rfl) (by rfl) ?_ ?_; rotate_left; · (intro w' hS; go_simp; first | done | with_reducible rfl)
                   try simp only [Act.put, List.setIfInBounds_toArray, List.set_cons_zero, List.set_cons_succ, Nat.reduceAdd])
                | (refine wpS_call (v := ?_) (f := ?_) (args := ?_) HRR (by rfl) (by rfl) ?_ ?_ ?_; rotate_left 3
                   · (intro w' hS; go_simp; first | done | (refine ⟨?_, ?_⟩ <;> with_reducible rfl) | with_reducible rfl)
                   · (intro s w' hS; first
                       | (refine (WT.out s w' hS).mono ?_; rintro e w2 ⟨rfl, rfl⟩; refine ⟨?_, hS⟩; with_reducible rfl))
                   try simp only [Act.put, List.setIfInBounds_toArray, List.set_cons_zero, List.set_cons_succ, Nat.reduceAdd])
              first
                | (refine wpS_skip (by rfl) (by rfl) ?_; try simp only [Act.put, List.setIfInBounds_toArray, List.set_cons_zero, List.set_cons_succ, Nat.reduceAdd])
                | (refine wpS_val (v := ?_) HRR (by rfl) (by rfl) ?_ ?_; rotate_left; · (intro w' hS; go_simp; first | done | with_reducible rfl)
                   try simp only [Act.put, List.setIfInBounds_toArray, List.set_cons_zero, List.set_cons_succ, Nat.reduceAdd])
                | (refine wpS_call (v := ?_) (f := ?_) (args := ?_) HRR (by rfl) (by rfl) ?_ ?_ ?_; rotate_left 3
                   · (intro w' hS; go_simp; first | done | (refine ⟨?_, ?_⟩ <;> with_reducible rfl) | with_reducible rfl)
                   · (intro s w' hS; first
                       | (refine (WT.out s w' hS).mono ?_; rintro e w2 ⟨rfl, rfl⟩; refine ⟨?_, hS⟩; with_reducible rfl))
                   try simp only [Act.put, List.setIfInBounds_toArray, List.set_cons_zero, List.set_cons_succ, Nat.reduceAdd])
              first
                | (refine wpS_skip (by rfl) (by rfl) ?_; try simp only [Act.put, List.setIfInBounds_toArray, List.set_cons_zero, List.set_cons_succ, Nat.reduceAdd])
                | (refine wpS_val (v := ?_) HRR (by rfl) (by rfl) ?_ ?_; rotate_left; · (intro w' hS; go_simp; first | done | with_reducible rfl)
                   try simp only [Act.put, List.setIfInBounds_toArray, List.set_cons_zero, List.set_cons_succ, Nat.reduceAdd])
                | (refine wpS_call (v := ?_) (f := ?_) (args := ?_) HRR (by rfl) (by rfl) ?_ ?_ ?_; rotate_left 3
                   · (intro w' hS; go_simp; first | done | (refine ⟨?_, ?_⟩ <;> with_reducible rfl) | with_reducible rfl)
                   · (intro s w' hS; first
                       | (refine (WT.out s w' hS).mono ?_; rintro e w2 ⟨rfl, rfl⟩; refine ⟨?_, hS⟩; with_reducible rfl))
                   try simp only [Act.put, List.setIfInBounds_toArray, List.set_cons_zero, List.set_cons_succ, Nat.reduceAdd])
              first
                | (refine wpS_skip (by rfl) (by rfl) ?_; try simp only [Act.put, List.setIfInBounds_toArray, List.set_cons_zero, List.set_cons_succ, Nat.reduceAdd])
                | (refine wpS_val (v := ?_) HRR (by rfl) (by rfl) ?_ ?_; rotate_left; · (intro w' hS; go_simp; first | done | with_reducible rfl)
                   try simp only [Act.put, List.setIfInBounds_toArray, List.set_cons_zero, List.set_cons_succ, Nat.reduceAdd])
                | (refine wpS_call (v := ?_) (f := ?_) (args := ?_) HRR (by rfl) (by rfl) ?_ ?_ ?_; rotate_left 3
                   · (intro w' hS; go_simp; first | done | (refine ⟨?_, ?_⟩ <;> with_reducible rfl) | with_reducible rfl)
                   · (intro s w' hS; first
                       | (refine (WT.out s w' hS).mono ?_; rintro e w2 ⟨rfl, rfl⟩; refine ⟨?_, hS⟩; with_reducible rfl))
                   try simp only [Act.put, List.setIfInBounds_toArray, List.set_cons_zero, List.set_cons_succ, Nat.reduceAdd])
              first
                | (refine wpS_skip (by rfl) (by rfl) ?_; try simp only [Act.put, List.setIfInBounds_toArray, List.set_cons_zero, List.set_cons_succ, Nat.reduceAdd])
                | (refine wpS_val (v := ?_) HRR (by rfl) (by rfl) ?_ ?_; rotate_left; · (intro w' hS; go_simp; first | done | with_reducible rfl)
                   try simp only [Act.put, List.setIfInBounds_toArray, List.set_cons_zero, List.set_cons_succ, Nat.reduceAdd])
                | (refine wpS_call (v := ?_) (f := ?_) (args := ?_) HRR (by rfl) (by rfl) ?_ ?_ ?_; rotate_left 3
                   · (intro w' hS; go_simp; first | done | (refine ⟨?_, ?_⟩ <;> with_reducible rfl) | with_reducible rfl)
                   · (intro s w' hS; first
                       | (refine (WT.out s w' hS).mono ?_; rintro e w2 ⟨rfl, rfl⟩; refine ⟨?_, hS⟩; with_reducible rfl))
                   try simp only [Act.put, List.setIfInBounds_toArray, List.set_cons_zero, List.set_cons_succ, Nat.reduceAdd])
              first
                | (refine wpS_chain (v := ?_) (f := ?_) (args := ?_) 0 (by kernel_rfl) rfl (by intro p hp; first | omega | (obtain rfl : p = 0 := (by omega); exact ⟨_, rfl, by kernel_rfl⟩)) (of_decide_eq_true (by kernel_rfl)) (by rfl) HRR ?_ ?_ ?_; rotate_left 3
                   · (intro w' hS; go_simp; first | done | (refine ⟨?_, ?_⟩ <;> with_reducible rfl) | with_reducible rfl)
                   · (intro w' hS; have hS' : CHB w [] [] q r (some ⟨g, o, none⟩) (some ⟨g', o', none⟩) i #[.slice A2 n2 c2, .slice A3 m c3, .slice A4 n4 c4, .bool ls] s t w' := hS; have ho := hS'.over hi3; rw [hsl.out] at ho; refine ho.mono ?_; rintro e w3 ⟨rfl, h3⟩; refine ⟨?_, h3⟩; with_reducible rfl)
                   try simp only [Act.put, List.setIfInBounds_toArray, List.set_cons_zero, List.set_cons_succ, Nat.reduceAdd])
              first
                | (refine wpS_skip (by rfl) (by rfl) ?_; try simp only [Act.put, List.setIfInBounds_toArray, List.set_cons_zero, List.set_cons_succ, Nat.reduceAdd])
                | (refine wpS_val (v := ?_) HRR (by rfl) (by rfl) ?_ ?_; rotate_left; · (intro w' hS; go_simp; first | done | with_reducible rfl)
                   try simp only [Act.put, List.setIfInBounds_toArray, List.set_cons_zero, List.set_cons_succ, Nat.reduceAdd])
                | (refine wpS_call (v := ?_) (f := ?_) (args := ?_) HRR (by rfl) (by rfl) ?_ ?_ ?_; rotate_left 3
                   · (intro w' hS; go_simp; first | done | (refine ⟨?_, ?_⟩ <;> with_reducible rfl) | with_reducible rfl)
                   · (intro s w' hS; first
                       | (refine (WT.out s w' hS).mono ?_; rintro e w2 ⟨rfl, rfl⟩; refine ⟨?_, hS⟩; with_reducible rfl))
                   try simp only [Act.put, List.setIfInBounds_toArray, List.set_cons_zero, List.set_cons_succ, Nat.reduceAdd])
              first
                | (refine wpS_skip (by rfl) (by rfl) ?_; try simp only [Act.put, List.setIfInBounds_toArray, List.set_cons_zero, List.set_cons_succ, Nat.reduceAdd])
                | (refine wpS_val (v := ?_) HRR (by rfl) (by rfl) ?_ ?_; rotate_left; · (intro w' hS; go_simp; first | done | with_reducible rfl)
                   try simp only [Act.put, List.setIfInBounds_toArray, List.set_cons_zero, List.set_cons_succ, Nat.reduceAdd])
                | (refine wpS_call (v := ?_) (f := ?_) (args := ?_) HRR (by rfl) (by rfl) ?_ ?_ ?_; rotate_left 3
                   · (intro w' hS; go_simp; first | done | (refine ⟨?_, ?_⟩ <;> with_reducible rfl) | with_reducible rfl)
                   · (intro s w' hS; first
                       | (refine (WT.out s w' hS).mono ?_; rintro e w2 ⟨rfl, rfl⟩; refine ⟨?_, hS⟩; with_reducible rfl))
                   try simp only [Act.put, List.setIfInBounds_toArray, List.set_cons_zero, List.set_cons_succ, Nat.reduceAdd])
              first
                | (refine wpS_skip (by rfl) (by rfl) ?_; try simp only [Act.put, List.setIfInBounds_toArray, List.set_cons_zero, List.set_cons_succ, Nat.reduceAdd])
                | (refine wpS_val (v := ?_) HRR (by rfl) (by rfl) ?_ ?_; rotate_left; · (intro w' hS; go_simp; first | done | with_reducible rfl)
                   try simp only [Act.put, List.setIfInBounds_toArray, List.set_cons_zero, List.set_cons_succ, Nat.reduceAdd])
                | (refine wpS_call (v := ?_) (f := ?_) (args := ?_) HRR (by rfl) (by rfl) ?_ ?_ ?_; rotate_left 3
                   · (intro w' hS; go_simp; first | done | (refine ⟨?_, ?_⟩ <;> with_reducible rfl) | with_reducible rfl)
                   · (intro s w' hS; first
                       | (refine (WT.out s w' hS).mono ?_; rintro e w2 ⟨rfl, rfl⟩; refine ⟨?_, hS⟩; with_reducible rfl))
                   try simp only [Act.put, List.setIfInBounds_toArray, List.set_cons_zero, List.set_cons_succ, Nat.reduceAdd])
              first
                | (refine wpS_skip (by rfl) (by rfl) ?_; try simp only [Act.put, List.setIfInBounds_toArray, List.set_cons_zero, List.set_cons_succ, Nat.reduceAdd])
                | (refine wpS_val (v := ?_) HRR (by rfl) (by rfl) ?_ ?_; rotate_left; · (intro w' hS; go_simp; first | done | with_reducible rfl)
                   try simp only [Act.put, List.setIfInBounds_toArray, List.set_cons_zero, List.set_cons_succ, Nat.reduceAdd])
                | (refine wpS_call (v := ?_) (f := ?_) (args := ?_) HRR (by rfl) (by rfl) ?_ ?_ ?_; rotate_left 3
                   · (intro w' hS; go_simp; first | done | (refine ⟨?_, ?_⟩ <;> with_reducible rfl) | with_reducible rfl)
                   · (intro s w' hS; first
                       | (refine (WT.out s w' hS).mono ?_; rintro e w2 ⟨rfl, rfl⟩; refine ⟨?_, hS⟩; with_reducible rfl))
                   try simp only [Act.put, List.setIfInBounds_toArray, List.set_cons_zero, List.set_cons_succ, Nat.reduceAdd])
              first
                | (refine wpS_skip (by rfl) (by rfl) ?_; try simp only [Act.put, List.setIfInBounds_toArray, List.set_cons_zero, List.set_cons_succ, Nat.reduceAdd])
                | (refine wpS_val (v := ?_) HRR (by rfl) (by rfl) ?_ ?_; rotate_left; · (intro w' hS; go_simp; first | done | with_reducible rfl)
                   try simp only [Act.put, List.setIfInBounds_toArray, List.set_cons_zero, List.set_cons_succ, Nat.reduceAdd])
                | (refine wpS_call (v := ?_) (f := ?_) (args := ?_) HRR (by rfl) (by rfl) ?_ ?_ ?_; rotate_left 3
                   · (intro w' hS; go_simp; first | done | (refine ⟨?_, ?_⟩ <;> with_reducible rfl) | with_reducible rfl)
                   · (intro s w' hS; first
                       | (refine (WT.out s w' hS).mono ?_; rintro e w2 ⟨rfl, rfl⟩; refine ⟨?_, hS⟩; with_reducible rfl))
                   try simp only [Act.put, List.setIfInBounds_toArray, List.set_cons_zero, List.set_cons_succ, Nat.reduceAdd])
              first
                | (refine wpS_skip (by rfl) (by rfl) ?_; try simp only [Act.put, List.setIfInBounds_toArray, List.set_cons_zero, List.set_cons_succ, Nat.reduceAdd])
                | (refine wpS_val (v := ?_) HRR (by rfl) (by rfl) ?_ ?_; rotate_left; · (intro w' hS; go_simp; first | done | with_reducible rfl)
                   try simp only [Act.put, List.setIfInBounds_toArray, List.set_cons_zero, List.set_cons_succ, Nat.reduceAdd])
                | (refine wpS_call (v := ?_) (f := ?_) (args := ?_) HRR (by rfl) (by rfl) ?_ ?_ ?_; rotate_left 3
                   · (intro w' hS; go_simp; first | done | (refine ⟨?_, ?_⟩ <;> with_reducible rfl) | with_reducible rfl)
                   · (intro s w' hS; first
                       | (refine (WT.out s w' hS).mono ?_; rintro e w2 ⟨rfl, rfl⟩; refine ⟨?_, hS⟩; with_reducible rfl))
                   try simp only [Act.put, List.setIfInBounds_toArray, List.set_cons_zero, List.set_cons_succ, Nat.reduceAdd])
              first
                | (refine wpS_skip (by rfl) (by rfl) ?_; try simp only [Act.put, List.setIfInBounds_toArray, List.set_cons_zero, List.set_cons_succ, Nat.reduceAdd])
                | (refine wpS_val (v := ?_) HRR (by rfl) (by rfl) ?_ ?_; rotate_left; · (intro w' hS; go_simp; first | done | with_reducible rfl)
                   try simp only [Act.put, List.setIfInBounds_toArray, List.set_cons_zero, List.set_cons_succ, Nat.reduceAdd])
                | (refine wpS_call (v := ?_) (f := ?_) (args := ?_) HRR (by rfl) (by rfl) ?_ ?_ ?_; rotate_left 3
                   · (intro w' hS; go_simp; first | done | (refine ⟨?_, ?_⟩ <;> with_reducible rfl) | with_reducible rfl)
                   · (intro s w' hS; first
                       | (refine (WT.out s w' hS).mono ?_; rintro e w2 ⟨rfl, rfl⟩; refine ⟨?_, hS⟩; with_reducible rfl))
                   try simp only [Act.put, List.setIfInBounds_toArray, List.set_cons_zero, List.set_cons_succ, Nat.reduceAdd])
              first
                | (refine wpS_skip (by rfl) (by rfl) ?_; try simp only [Act.put, List.setIfInBounds_toArray, List.set_cons_zero, List.set_cons_succ, Nat.reduceAdd])
                | (refine wpS_val (v := ?_) HRR (by rfl) (by rfl) ?_ ?_; rotate_left; · (intro w' hS; go_simp; first | done | with_reducible rfl)
                   try simp only [Act.put, List.setIfInBounds_toArray, List.set_cons_zero, List.set_cons_succ, Nat.reduceAdd])
                | (refine wpS_call (v := ?_) (f := ?_) (args := ?_) HRR (by rfl) (by rfl) ?_ ?_ ?_; rotate_left 3
                   · (intro w' hS; go_simp; first | done | (refine ⟨?_, ?_⟩ <;> with_reducible rfl) | with_reducible rfl)
                   · (intro s w' hS; first
                       | (refine (WT.out s w' hS).mono ?_; rintro e w2 ⟨rfl, rfl⟩; refine ⟨?_, hS⟩; with_reducible rfl))
                   try simp only [Act.put, List.setIfInBounds_toArray, List.set_cons_zero, List.set_cons_succ, Nat.reduceAdd])
              first
                | (refine wpS_skip (by rfl) (by rfl) ?_; try simp only [Act.put, List.setIfInBounds_toArray, List.set_cons_zero, List.set_cons_succ, Nat.reduceAdd])
                | (refine wpS_val (v := ?_) HRR (by rfl) (by rfl) ?_ ?_; rotate_left; · (intro w' hS; go_simp; first | done | with_reducible rfl)
                   try simp only [Act.put, List.setIfInBounds_toArray, List.set_cons_zero, List.set_cons_succ, Nat.reduceAdd])
                | (refine wpS_call (v := ?_) (f := ?_) (args := ?_) HRR (by rfl) (by rfl) ?_ ?_ ?_; rotate_left 3
                   · (intro w' hS; go_simp; first | done | (refine ⟨?_, ?_⟩ <;> with_reducible rfl) | with_reducible rfl)
                   · (intro s w' hS; first
                       | (refine (WT.out s w' hS).mono ?_; rintro e w2 ⟨rfl, rfl⟩; refine ⟨?_, hS⟩; with_reducible rfl))
                   try simp only [Act.put, List.setIfInBounds_toArray, List.set_cons_zero, List.set_cons_succ, Nat.reduceAdd])
              refine wpS_done (by kernel_rfl) (fun w8 hS => ?_)
              have hS : CHB w [] [] q r (some ⟨g, o, none⟩) (some ⟨g', o', none⟩) i #[.slice A2 n2 c2, .slice A3 m c3, .slice A4 n4 c4, .bool ls] (upd s (q i) { s (q i) with lost := false }) t w8 := hS
              have FF : Hid (∃ (i' : Nat), i' ≤ 3 ∧ Value.int .i64 ((i : Int) + 1) = .int .i64 i' ∧ P2 w q r (some ⟨g, o, none⟩) (some ⟨g', o', none⟩) i' w8) := Lib.hid ⟨i + 1, by omega, by simp, _, _, hS.ch, qg_over hq HQH.out hi3 _⟩
              clear hS WT HRR HB HQH
              go_wp2_with fail
              go_roundw
              case rel => exact FF.out
              case measure => simp [intOf]; omega
        · obtain rfl : i = 3 := by omega
          obtain ⟨s, t, hC, -⟩ := hP
          have hb := hC.bel
          clear hC
          go_wp2_with fail
          go_ret
          exact ⟨rfl, hb⟩
end Go.Proofs.Ytbmkfjgodgmjnaa
