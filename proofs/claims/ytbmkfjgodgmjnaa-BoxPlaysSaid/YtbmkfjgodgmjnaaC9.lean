/- BoxPlays: the walk. -/
import Derived.Test.YtbmkfjgodgmjnaaC8
import Derived.Test.YtbmkfjgodgmjnaaC2
import Derived.Deep.CutBlock
namespace Go.Proofs.Ytbmkfjgodgmjnaa
open Go.RowKit
set_option linter.unusedVariables false
set_option linter.unusedSimpArgs false
/-- The two boxes, between two acts. -/
def Duo (B q r : Nat) (W0 : World) (b : Bx) (w : World) : Prop := ∃ Φ, BX Φ B w q b.S ∧ RB Φ B w r b ∧ Nu Φ w ∧ B ≤ w.heap.size ∧ Below W0.heap.size W0 w ∧ W0.heap.size ≤ B
theorem Duo.mid {B q r : Nat} {W0 w : World} {b : Bx} (h : Duo B q r W0 b w) (t : TypeId) (cs : Array Value) : Mid B q r w.heap.size W0 t cs b.S b (w.alloc (.cells cs t)) := by
  obtain ⟨Φ, g1, g2, g3, g5, g6, g7⟩ := h
  have hb := bl1 w (.cells cs t)
  exact ⟨Φ, g1.below hb, g2.below hb, g3.below hb, ⟨Blk.new _ _ _, g3 _ (Nat.le_refl _)⟩, Nat.le_trans g5 hb.size, g6.trans (hb.mono g6.size), g7⟩
theorem Mid.duo {B q r ac : Nat} {W0 w : World} {t : TypeId} {cs : Array Value} {b : Bx} (h : Mid B q r ac W0 t cs b.S b w) : Duo B q r W0 b w := by
  obtain ⟨Φ, h1, h2, h3, h4, h5, h6, h7⟩ := h
  exact ⟨Φ, h1, h2, h3, h5, h6, h7⟩
theorem Duo.bel {B q r : Nat} {W0 w : World} {b : Bx} (h : Duo B q r W0 b w) : Below W0.heap.size W0 w := by obtain ⟨Φ, -, -, -, -, h, -⟩ := h; exact h
theorem Duo.below {B q r : Nat} {W0 w w' : World} {b : Bx} (h : Duo B q r W0 b w) (hb : Below w.heap.size w w') : Duo B q r W0 b w' := by
  obtain ⟨Φ, g1, g2, g3, g5, g6, g7⟩ := h
  exact ⟨Φ, g1.below hb, g2.below hb, g3.below hb, Nat.le_trans g5 hb.size, g6.trans (hb.mono g6.size), g7⟩
/-- Behind an act: it went alike. -/
def PE (B q r : Nat) (W0 : World) (v : Value) (w : World) : Prop := v = .bool true ∧ ∃ b, Duo B q r W0 b w
theorem PE.mk {B q r ac : Nat} {W0 w : World} {t : TypeId} {cs : Array Value} {a b : Bx} (h : Mid B q r ac W0 t cs a b w) (ha : a = b.S) : PE B q r W0 (.bool true) w := ⟨rfl, b, by subst ha; exact h.duo⟩
theorem rb_cells {Φ : Who} {B r : Nat} {w : World} {b : Bx} (h : RB Φ B w r b) : ∃ A1 c1 A2 c2, ∀ w', Below w.heap.size w w' → w'.cell? ⟨r, 1, none⟩ = some (.slice A1 b.tx.length c1) ∧ w'.cell? ⟨r, 2, none⟩ = some (.slice A2 b.rx.length c2) := by
  obtain ⟨-, -, -, A0, c0, A1, c1, A2, c2, h4, -⟩ := h
  exact ⟨A1, c1, A2, c2, fun w' hb => ⟨(h4.below hb).cell 1, (h4.below hb).cell 2⟩⟩
set_option maxRecDepth 100000 in
set_option maxHeartbeats 6000000 in
theorem plays_any (AF : Option Addr) (nf cf : Nat) (fl : List Flt) (A : Option Addr) (n c : Nat) (l : List Ac) (w : World) (fx : fl.length = nf) (fn : nf ≤ cf) (fc : cf ≤ maxLen) (fA : AF = none → nf = 0 ∧ cf = 0) (fr : Rd w w.heap.size AF (flcells fl)) (fwf : ∀ x ∈ fl, x.wf)
    (hx : l.length = n) (hn : n ≤ c) (hc : c ≤ maxLen) (hA : A = none → n = 0 ∧ c = 0) (hr : Rd w w.heap.size A (cellsA l)) (hwf : ∀ x ∈ l, x.wf) :
    Calls Try.prog 6 #[.slice AF nf cf, .slice A n c] w fun e w' => e = .returned (.bool true) ∧ Below w.heap.size w w' := by
  have SM := fun w => some_any AF nf cf w fn (Nat.le_trans fn fc) fA
  have FW := fun w => few_any A n c w hn (Nat.le_trans hn hc) hA
  unfold maxLen at hc fc
  obtain ⟨M, hM⟩ : ∃ M, min nf 12 = M := ⟨_, rfl⟩
  rw [hM] at SM
  have SM := Lib.hid SM
  obtain ⟨N, hN⟩ : ∃ N, min n 100 = N := ⟨_, rfl⟩
  rw [hN] at FW
  have FW := Lib.hid FW
  have hNn : N ≤ n := by omega
  have hN100 : N ≤ 100 := by omega
  have hMn : M ≤ nf := by omega
  have HX := Lib.hid hx
  obtain ⟨fs, hfs⟩ : ∃ fs, fl.take M = fs := ⟨_, rfl⟩
  have hflM : fs.length = M := by rw [← hfs, List.length_take]; omega
  have fwfs : ∀ x ∈ fs, x.wf := fun x hx => fwf x (List.mem_of_mem_take (by rw [hfs]; exact hx))
  have frs : Hid (Rd w w.heap.size AF (flcells fs)) := Lib.hid (by rw [← hfs, flcells_take]; exact fr.take _)
  have HFM := Lib.hid hflM
  have hAM : Hid (AF = none → M = 0 ∧ cf = 0) := Lib.hid fun h => by have := fA h; exact ⟨by omega, this.2⟩
  clear hN hx hM hfs hflM fx fr fwf fA hA
  go_enter Try.func6, Try.ntmps6
  go_wp2_with fail
  refine (shown_any _).mono ?_
  rintro e w1 ⟨rfl, b1⟩
  have z1 := b1.size
  go_wp2_with fail
  refine (SM.out _).mono ?_
  rintro e w' ⟨rfl, rfl⟩
  by_cases h8 : 8 < M
  · have N1 := Lib.hid (fun w => new_no AF M cf w h8 (by unfold maxLen; omega))
    have N2 := Lib.hid (fun w => rnew_no AF M cf w h8 (by unfold maxLen; omega))
    go_wp2_with fail
    refine (N1.out _).mono ?_
    rintro e w' ⟨rfl, rfl⟩
    go_wp2_with fail
    refine (SM.out _).mono ?_
    rintro e w' ⟨rfl, rfl⟩
    go_wp2_with fail
    refine (N2.out _).mono ?_
    rintro e w' ⟨rfl, rfl⟩
    go_wp2_with fail
    go_ret
    exact ⟨rfl, b1⟩
  · have h8' : M ≤ 8 := by omega
    have N1 := Lib.hid (new_yes (fun _ => (0, 9)) w.heap.size AF M cf fs w1 z1 (nu0 w1) HFM.out ((frs.out.below b1).more z1) hAM.out h8' fwfs)
    go_wp2_with fail
    refine N1.out.mono ?_
    rintro e w2 ⟨q, Φ2, rfl, hq, B2, x2⟩
    have z2 := x2.size
    have k2 := b1.trans (x2.below z1)
    have N2 := Lib.hid (rnew_yes Φ2 w.heap.size AF M cf fs w2 k2.size x2.nu HFM.out ((frs.out.below k2).more k2.size) h8' fwfs)
    clear N1
    go_wp2_with fail
    refine (SM.out _).mono ?_
    rintro e w' ⟨rfl, rfl⟩
    go_wp2_with fail
    refine N2.out.mono ?_
    rintro e w3 ⟨r, Φ3, rfl, hr3, B3, x3⟩
    have k3 := k2.trans (x3.below k2.size)
    have HD : Hid (Duo w.heap.size q r w ⟨fs, [], [], false⟩ w3) := Lib.hid ⟨Φ3, B2.ext x3 (fun j _ h => h) (fun h => h), B3, x3.nu, k3.size, k3, Nat.le_refl _⟩
    clear N2 B2 B3 x2 x3
    go_wp2_with fail
    refine (FW.out _).mono ?_
    rintro e w' ⟨rfl, rfl⟩
    go_wp2_with fail
    go_loopw [50] (fun iv wr => ∃ (k : Nat) (b : Bx), k ≤ N ∧ iv = .int .i64 k ∧ Duo w.heap.size q r w b wr) (fun iv _ => N - (intOf iv).toNat)
    case atStart => exact ⟨0, _, Nat.zero_le _, rfl, HD.out⟩
    case round =>
      obtain ⟨k, b, hk, rfl, HT⟩ := hrel
      have hbr := HT.bel
      have hzr := hbr.size
      clear HD FW SM frs
      by_cases hlt : k < N
      · have hlt' : (k : Int) < N := by omega
        obtain ⟨o, ho⟩ : ∃ o, l[k]? = some o := ⟨_, List.getElem?_eq_getElem (by rw [HX.out]; omega)⟩
        have how := hwf o (List.mem_of_getElem? ho)
        obtain ⟨bk, ofs, ea, -, hc0⟩ := hr.below hbr (by intro h; have h2 := flatC_len Ac.cs 12 l (fun _ _ => rfl); rw [show flatC Ac.cs l = [] from h, HX.out] at h2; simp at h2; omega)
        have hc' : ∀ j u, o.cs[j]? = some u → wr.cell? ⟨bk, ofs + (k * 12 + j), none⟩ = some u := fun j u hu => hc0 _ _ (flatC_at Ac.cs 12 l (fun _ _ => rfl) k o ho j u hu)
        have r0 := hc' 0 _ rfl
        have r1 := hc' 1 _ rfl
        have r2 := hc' 2 _ rfl
        have r3 := hc' 3 _ rfl
        have r4 := hc' 4 _ rfl
        have r5 := hc' 5 _ rfl
        have r6 := hc' 6 _ rfl
        have r7 := hc' 7 _ rfl
        have r8 := hc' 8 _ rfl
        have r9 := hc' 9 _ rfl
        have r10 := hc' 10 _ rfl
        have r11 := hc' 11 _ rfl
        rw [Nat.add_zero] at r0
        rw [← Nat.add_assoc] at r1 r2 r3 r4 r5 r6 r7 r8 r9 r10 r11
        clear hc' hc0 ho
        subst ea
        obtain ⟨ok, f⟩ := o
        have hf : f.wf := how.fw
        have k0 : 0 ≤ ok := how.k0
        have k1 : ok < 256 := how.k1
        clear how
        dsimp only at r0 r1 r2 r3 r4 r5 r6 r7 r8 r9 r10 r11
        go_upto_region 12 with fail
        refine wp_named fun W hW => ?_
        have HW : Mid w.heap.size q r wr.heap.size w 52 (Ac.mk ok f).cs.toArray b.S b W := by subst hW; exact HT.mid _ _
        clear hW r0 r1 r2 r3 r4 r5 r6 r7 r8 r9 r10 r11
        have FIN : Hid (∀ b W, Duo w.heap.size q r w b W → ∃ (k' : Nat) (b : Bx), k' ≤ N ∧ Value.int .i64 ((k + 1 : Nat) : Int) = .int .i64 k' ∧ Duo w.heap.size q r w b W) := Lib.hid fun b W h => ⟨k + 1, b, by omega, rfl, h⟩
        have ac := HW.blk.cell
        have HWH := Lib.hid HW
        clear HW HT
        go_upto_block 2 with fail
        go_cut [12] (fun v wx => PE w.heap.size q r w v wx)
        case first =>
          by_cases h0 : ok % 6 = 0
          · have h0' : (ok % 6 == 0) = true := by rw [beq_iff_eq]; exact h0
            clear h0
            have HR : ∀ s w', (fun s w' => Mid w.heap.size q r wr.heap.size w 52 (Ac.mk ok f).cs.toArray (if s = 0 then b.S else (sendX b.S f)) (if s ≤ 1 then b else (rsendX b f)) w') s w' → ∀ i, w'.cell? ⟨wr.heap.size, i, none⟩ = (Ac.mk ok f).cs.toArray[i]? := fun s w' h => h.blk.cell
            have S1 : Hid (∀ w', Mid w.heap.size q r wr.heap.size w 52 (Ac.mk ok f).cs.toArray b.S b w' → Calls Try.prog 18 #[.pointer (some ⟨q, 0, none⟩), f.val] w' fun e w2 => e = .returned (.int .i64 (sendE b f)) ∧ Mid w.heap.size q r wr.heap.size w 52 (Ac.mk ok f).cs.toArray (sendX b.S f) b w2) := Lib.hid fun w' h => by rw [← S_sendE]; exact mid_send h f hf
            have S2 : Hid (∀ w', Mid w.heap.size q r wr.heap.size w 52 (Ac.mk ok f).cs.toArray (sendX b.S f) b w' → Calls Try.prog 28 #[.pointer (some ⟨r, 0, none⟩), f.val] w' fun e w2 => e = .returned (.int .i64 (sendE b f)) ∧ Mid w.heap.size q r wr.heap.size w 52 (Ac.mk ok f).cs.toArray (sendX b.S f) (rsendX b f) w2) := Lib.hid fun w' h => mid_rsend h f hf
            obtain ⟨E, hE⟩ : ∃ E, sendE b f = E := ⟨_, rfl⟩
            rw [hE] at S1 S2
            have hEE : (E == E) = true := by simp
            clear hE
            go_wp2_with fail
            refine wp_region_s [3, 7] ((fun s w' => Mid w.heap.size q r wr.heap.size w 52 (Ac.mk ok f).cs.toArray (if s = 0 then b.S else (sendX b.S f)) (if s ≤ 1 then b else (rsendX b f)) w')) (by kernel_rfl) (by kernel_rfl) (HWH.out.below (Below.refl _ _).drew) ?_
            first
              | (refine wpS_skip (by rfl) (by rfl) ?_; try simp only [Act.put, List.setIfInBounds_toArray, List.set_cons_zero, List.set_cons_succ, Nat.reduceAdd])
              | (refine wpS_val (v := ?_) HR (by rfl) (by rfl) ?_ ?_; rotate_left; · (intro w' hS; go_simp; first | done | with_reducible rfl)
                 try simp only [Act.put, List.setIfInBounds_toArray, List.set_cons_zero, List.set_cons_succ, Nat.reduceAdd])
            first
              | (refine wpS_skip (by rfl) (by rfl) ?_; try simp only [Act.put, List.setIfInBounds_toArray, List.set_cons_zero, List.set_cons_succ, Nat.reduceAdd])
              | (refine wpS_val (v := ?_) HR (by rfl) (by rfl) ?_ ?_; rotate_left; · (intro w' hS; go_simp; first | done | with_reducible rfl)
                 try simp only [Act.put, List.setIfInBounds_toArray, List.set_cons_zero, List.set_cons_succ, Nat.reduceAdd])
            first
              | (refine wpS_skip (by rfl) (by rfl) ?_; try simp only [Act.put, List.setIfInBounds_toArray, List.set_cons_zero, List.set_cons_succ, Nat.reduceAdd])
              | (refine wpS_val (v := ?_) HR (by rfl) (by rfl) ?_ ?_; rotate_left; · (intro w' hS; go_simp; first | done | with_reducible rfl)
                 try simp only [Act.put, List.setIfInBounds_toArray, List.set_cons_zero, List.set_cons_succ, Nat.reduceAdd])
            first
              | (refine wpS_chain (v := ?_) (f := ?_) (args := ?_) 0 (by kernel_rfl) rfl (by intro p hp; first | omega | (obtain rfl : p = 0 := (by omega); exact ⟨_, rfl, by kernel_rfl⟩)) (of_decide_eq_true (by kernel_rfl)) (by rfl) HR ?_ ?_ ?_; rotate_left 3
                 · (intro w' hS; go_simp; first | done | (refine ⟨?_, ?_⟩ <;> with_reducible rfl) | with_reducible rfl)
                 · (intro w' hS; have hS' : Mid w.heap.size q r wr.heap.size w 52 (Ac.mk ok f).cs.toArray b.S b w' := hS; refine (S1.out w' hS').mono ?_; rintro e w2 ⟨rfl, h2⟩; refine ⟨?_, h2⟩; with_reducible rfl)
                 try simp only [Act.put, List.setIfInBounds_toArray, List.set_cons_zero, List.set_cons_succ, Nat.reduceAdd])
            first
              | (refine wpS_skip (by rfl) (by rfl) ?_; try simp only [Act.put, List.setIfInBounds_toArray, List.set_cons_zero, List.set_cons_succ, Nat.reduceAdd])
              | (refine wpS_val (v := ?_) HR (by rfl) (by rfl) ?_ ?_; rotate_left; · (intro w' hS; go_simp; first | done | with_reducible rfl)
                 try simp only [Act.put, List.setIfInBounds_toArray, List.set_cons_zero, List.set_cons_succ, Nat.reduceAdd])
            first
              | (refine wpS_skip (by rfl) (by rfl) ?_; try simp only [Act.put, List.setIfInBounds_toArray, List.set_cons_zero, List.set_cons_succ, Nat.reduceAdd])
              | (refine wpS_val (v := ?_) HR (by rfl) (by rfl) ?_ ?_; rotate_left; · (intro w' hS; go_simp; first | done | with_reducible rfl)
                 try simp only [Act.put, List.setIfInBounds_toArray, List.set_cons_zero, List.set_cons_succ, Nat.reduceAdd])
            first
              | (refine wpS_skip (by rfl) (by rfl) ?_; try simp only [Act.put, List.setIfInBounds_toArray, List.set_cons_zero, List.set_cons_succ, Nat.reduceAdd])
              | (refine wpS_val (v := ?_) HR (by rfl) (by rfl) ?_ ?_; rotate_left; · (intro w' hS; go_simp; first | done | with_reducible rfl)
                 try simp only [Act.put, List.setIfInBounds_toArray, List.set_cons_zero, List.set_cons_succ, Nat.reduceAdd])
            first
              | (refine wpS_chain (v := ?_) (f := ?_) (args := ?_) 1 (by kernel_rfl) rfl (by intro p hp; first | omega | (obtain rfl : p = 0 := (by omega); exact ⟨_, rfl, by kernel_rfl⟩)) (of_decide_eq_true (by kernel_rfl)) (by rfl) HR ?_ ?_ ?_; rotate_left 3
                 · (intro w' hS; go_simp; first | done | (refine ⟨?_, ?_⟩ <;> with_reducible rfl) | with_reducible rfl)
                 · (intro w' hS; have hS' : Mid w.heap.size q r wr.heap.size w 52 (Ac.mk ok f).cs.toArray (sendX b.S f) b w' := hS; refine (S2.out w' hS').mono ?_; rintro e w2 ⟨rfl, h2⟩; refine ⟨?_, h2⟩; with_reducible rfl)
                 try simp only [Act.put, List.setIfInBounds_toArray, List.set_cons_zero, List.set_cons_succ, Nat.reduceAdd])
            first
              | (refine wpS_skip (by rfl) (by rfl) ?_; try simp only [Act.put, List.setIfInBounds_toArray, List.set_cons_zero, List.set_cons_succ, Nat.reduceAdd])
              | (refine wpS_val (v := ?_) HR (by rfl) (by rfl) ?_ ?_; rotate_left; · (intro w' hS; go_simp; first | done | with_reducible rfl)
                 try simp only [Act.put, List.setIfInBounds_toArray, List.set_cons_zero, List.set_cons_succ, Nat.reduceAdd])
            first
              | (refine wpS_skip (by rfl) (by rfl) ?_; try simp only [Act.put, List.setIfInBounds_toArray, List.set_cons_zero, List.set_cons_succ, Nat.reduceAdd])
              | (refine wpS_val (v := ?_) HR (by rfl) (by rfl) ?_ ?_; rotate_left; · (intro w' hS; go_simp; first | done | with_reducible rfl)
                 try simp only [Act.put, List.setIfInBounds_toArray, List.set_cons_zero, List.set_cons_succ, Nat.reduceAdd])
            refine wpS_done (by kernel_rfl) (fun w8 hS => ?_)
            go_wp2_with fail
            go_meet
            case rel => exact PE.mk hS (S_send b f)
          · by_cases h1 : ok % 6 = 1
            · have h0' : (ok % 6 == 0) = false := beq_eq_false_iff_ne.2 h0
              have h1' : (ok % 6 == 1) = true := by rw [beq_iff_eq]; exact h1
              clear h1
              have D1 := Lib.hid (mid_done HWH.out)
              go_wp2_with fail
              refine D1.out.mono ?_
              rintro e w4 ⟨rfl, M4⟩
              have D2 := Lib.hid (mid_rdone M4)
              clear D1 M4
              go_wp2_with fail
              refine D2.out.mono ?_
              rintro e w5 ⟨tx, htx, rfl, M5⟩
              have HP := Lib.hid (PE.mk M5 (by unfold Bx.S; simp only [htx]))
              clear D2 M5 htx
              go_wp2_with fail
              go_meet
              case rel => exact HP.out
            · by_cases h2 : ok % 6 = 2
              · have h0' : (ok % 6 == 0) = false := beq_eq_false_iff_ne.2 h0
                have h1' : (ok % 6 == 1) = false := beq_eq_false_iff_ne.2 h1
                have h2' : (ok % 6 == 2) = true := by rw [beq_iff_eq]; exact h2
                clear h2
                have HR : ∀ s w', (fun s w' => Mid w.heap.size q r wr.heap.size w 52 (Ac.mk ok f).cs.toArray (if s = 0 then b.S else (takeX b.S f)) (if s ≤ 1 then b else (takeX b f)) w') s w' → ∀ i, w'.cell? ⟨wr.heap.size, i, none⟩ = (Ac.mk ok f).cs.toArray[i]? := fun s w' h => h.blk.cell
                have S1 : Hid (∀ w', Mid w.heap.size q r wr.heap.size w 52 (Ac.mk ok f).cs.toArray b.S b w' → Calls Try.prog 16 #[.pointer (some ⟨q, 0, none⟩), f.val] w' fun e w2 => e = .returned (.bool (takeB b f)) ∧ Mid w.heap.size q r wr.heap.size w 52 (Ac.mk ok f).cs.toArray (takeX b.S f) b w2) := Lib.hid fun w' h => mid_take h f hf
                have S2 : Hid (∀ w', Mid w.heap.size q r wr.heap.size w 52 (Ac.mk ok f).cs.toArray (takeX b.S f) b w' → Calls Try.prog 30 #[.pointer (some ⟨r, 0, none⟩), f.val] w' fun e w2 => e = .returned (.bool (takeB b f)) ∧ Mid w.heap.size q r wr.heap.size w 52 (Ac.mk ok f).cs.toArray (takeX b.S f) (takeX b f) w2) := Lib.hid fun w' h => mid_rtake h f hf
                obtain ⟨E, hE⟩ : ∃ E, takeB b f = E := ⟨_, rfl⟩
                rw [hE] at S1 S2
                have hEE : (E == E) = true := by simp
                clear hE
                go_wp2_with fail
                refine wp_region_s [3, 7] ((fun s w' => Mid w.heap.size q r wr.heap.size w 52 (Ac.mk ok f).cs.toArray (if s = 0 then b.S else (takeX b.S f)) (if s ≤ 1 then b else (takeX b f)) w')) (by kernel_rfl) (by kernel_rfl) (HWH.out.below (Below.refl _ _).drew) ?_
                first
                  | (refine wpS_skip (by rfl) (by rfl) ?_; try simp only [Act.put, List.setIfInBounds_toArray, List.set_cons_zero, List.set_cons_succ, Nat.reduceAdd])
                  | (refine wpS_val (v := ?_) HR (by rfl) (by rfl) ?_ ?_; rotate_left; · (intro w' hS; go_simp; first | done | with_reducible rfl)
                     try simp only [Act.put, List.setIfInBounds_toArray, List.set_cons_zero, List.set_cons_succ, Nat.reduceAdd])
                first
                  | (refine wpS_skip (by rfl) (by rfl) ?_; try simp only [Act.put, List.setIfInBounds_toArray, List.set_cons_zero, List.set_cons_succ, Nat.reduceAdd])
                  | (refine wpS_val (v := ?_) HR (by rfl) (by rfl) ?_ ?_; rotate_left; · (intro w' hS; go_simp; first | done | with_reducible rfl)
                     try simp only [Act.put, List.setIfInBounds_toArray, List.set_cons_zero, List.set_cons_succ, Nat.reduceAdd])
                first
                  | (refine wpS_skip (by rfl) (by rfl) ?_; try simp only [Act.put, List.setIfInBounds_toArray, List.set_cons_zero, List.set_cons_succ, Nat.reduceAdd])
                  | (refine wpS_val (v := ?_) HR (by rfl) (by rfl) ?_ ?_; rotate_left; · (intro w' hS; go_simp; first | done | with_reducible rfl)
                     try simp only [Act.put, List.setIfInBounds_toArray, List.set_cons_zero, List.set_cons_succ, Nat.reduceAdd])
                first
                  | (refine wpS_chain (v := ?_) (f := ?_) (args := ?_) 0 (by kernel_rfl) rfl (by intro p hp; first | omega | (obtain rfl : p = 0 := (by omega); exact ⟨_, rfl, by kernel_rfl⟩)) (of_decide_eq_true (by kernel_rfl)) (by rfl) HR ?_ ?_ ?_; rotate_left 3
                     · (intro w' hS; go_simp; first | done | (refine ⟨?_, ?_⟩ <;> with_reducible rfl) | with_reducible rfl)
                     · (intro w' hS; have hS' : Mid w.heap.size q r wr.heap.size w 52 (Ac.mk ok f).cs.toArray b.S b w' := hS; refine (S1.out w' hS').mono ?_; rintro e w2 ⟨rfl, h2⟩; refine ⟨?_, h2⟩; with_reducible rfl)
                     try simp only [Act.put, List.setIfInBounds_toArray, List.set_cons_zero, List.set_cons_succ, Nat.reduceAdd])
                first
                  | (refine wpS_skip (by rfl) (by rfl) ?_; try simp only [Act.put, List.setIfInBounds_toArray, List.set_cons_zero, List.set_cons_succ, Nat.reduceAdd])
                  | (refine wpS_val (v := ?_) HR (by rfl) (by rfl) ?_ ?_; rotate_left; · (intro w' hS; go_simp; first | done | with_reducible rfl)
                     try simp only [Act.put, List.setIfInBounds_toArray, List.set_cons_zero, List.set_cons_succ, Nat.reduceAdd])
                first
                  | (refine wpS_skip (by rfl) (by rfl) ?_; try simp only [Act.put, List.setIfInBounds_toArray, List.set_cons_zero, List.set_cons_succ, Nat.reduceAdd])
                  | (refine wpS_val (v := ?_) HR (by rfl) (by rfl) ?_ ?_; rotate_left; · (intro w' hS; go_simp; first | done | with_reducible rfl)
                     try simp only [Act.put, List.setIfInBounds_toArray, List.set_cons_zero, List.set_cons_succ, Nat.reduceAdd])
                first
                  | (refine wpS_skip (by rfl) (by rfl) ?_; try simp only [Act.put, List.setIfInBounds_toArray, List.set_cons_zero, List.set_cons_succ, Nat.reduceAdd])
                  | (refine wpS_val (v := ?_) HR (by rfl) (by rfl) ?_ ?_; rotate_left; · (intro w' hS; go_simp; first | done | with_reducible rfl)
                     try simp only [Act.put, List.setIfInBounds_toArray, List.set_cons_zero, List.set_cons_succ, Nat.reduceAdd])
                first
                  | (refine wpS_chain (v := ?_) (f := ?_) (args := ?_) 1 (by kernel_rfl) rfl (by intro p hp; first | omega | (obtain rfl : p = 0 := (by omega); exact ⟨_, rfl, by kernel_rfl⟩)) (of_decide_eq_true (by kernel_rfl)) (by rfl) HR ?_ ?_ ?_; rotate_left 3
                     · (intro w' hS; go_simp; first | done | (refine ⟨?_, ?_⟩ <;> with_reducible rfl) | with_reducible rfl)
                     · (intro w' hS; have hS' : Mid w.heap.size q r wr.heap.size w 52 (Ac.mk ok f).cs.toArray (takeX b.S f) b w' := hS; refine (S2.out w' hS').mono ?_; rintro e w2 ⟨rfl, h2⟩; refine ⟨?_, h2⟩; with_reducible rfl)
                     try simp only [Act.put, List.setIfInBounds_toArray, List.set_cons_zero, List.set_cons_succ, Nat.reduceAdd])
                first
                  | (refine wpS_skip (by rfl) (by rfl) ?_; try simp only [Act.put, List.setIfInBounds_toArray, List.set_cons_zero, List.set_cons_succ, Nat.reduceAdd])
                  | (refine wpS_val (v := ?_) HR (by rfl) (by rfl) ?_ ?_; rotate_left; · (intro w' hS; go_simp; first | done | with_reducible rfl)
                     try simp only [Act.put, List.setIfInBounds_toArray, List.set_cons_zero, List.set_cons_succ, Nat.reduceAdd])
                first
                  | (refine wpS_skip (by rfl) (by rfl) ?_; try simp only [Act.put, List.setIfInBounds_toArray, List.set_cons_zero, List.set_cons_succ, Nat.reduceAdd])
                  | (refine wpS_val (v := ?_) HR (by rfl) (by rfl) ?_ ?_; rotate_left; · (intro w' hS; go_simp; first | done | with_reducible rfl)
                     try simp only [Act.put, List.setIfInBounds_toArray, List.set_cons_zero, List.set_cons_succ, Nat.reduceAdd])
                refine wpS_done (by kernel_rfl) (fun w8 hS => ?_)
                go_wp2_with fail
                go_meet
                case rel => exact PE.mk hS (S_take b f)
              · by_cases h3 : ok % 6 = 3
                · have h0' : (ok % 6 == 0) = false := beq_eq_false_iff_ne.2 h0
                  have h1' : (ok % 6 == 1) = false := beq_eq_false_iff_ne.2 h1
                  have h2' : (ok % 6 == 2) = false := beq_eq_false_iff_ne.2 h2
                  have h3' : (ok % 6 == 3) = true := by rw [beq_iff_eq]; exact h3
                  clear h3
                  have D1 := Lib.hid (mid_recv HWH.out)
                  rw [show b.S.rx = b.rx from rfl] at D1
                  obtain ⟨x, hx⟩ : ∃ x, b.rx.headD Fr.none_ = x := ⟨_, rfl⟩
                  obtain ⟨ie, hie⟩ : ∃ ie, (!b.rx.isEmpty) = ie := ⟨_, rfl⟩
                  rw [hx, hie] at D1
                  have HH := Lib.hid hx
                  have HI := Lib.hid hie
                  have heq := fun w' => eq26_any x x w'
                  rw [eqb_self'] at heq
                  have hii : (ie == ie) = true := by simp
                  clear hx hie
                  go_wp2_with fail
                  refine D1.out.mono ?_
                  rintro e w4 ⟨rfl, M4⟩
                  go_upto_region 22 with fail
                  refine wp_named fun W4 hW4 => ?_
                  have M4' : Mid w.heap.size q r w4.heap.size w 26 x.cs.toArray { b.S with rx := b.rx.tail } b W4 := by subst hW4; exact M4.beside
                  have D2 := Lib.hid (mid_rrecv M4')
                  rw [HH.out, HI.out] at D2
                  clear hW4 D1 M4 M4'
                  go_wp2_with fail
                  refine D2.out.mono ?_
                  rintro e w5 ⟨rfl, M5⟩
                  have b5 := (M5.blk.below (bl1 w5 (.cells x.cs.toArray 26))).cell
                  have M6 := Lib.hid (PE.mk (M5.below (bl1 w5 (.cells x.cs.toArray 26))) rfl)
                  clear D2 M5
                  go_wp2_with fail
                  go_meet
                  case rel => exact M6.out
                · by_cases h4 : ok % 6 = 4
                  · have h0' : (ok % 6 == 0) = false := beq_eq_false_iff_ne.2 h0
                    have h1' : (ok % 6 == 1) = false := beq_eq_false_iff_ne.2 h1
                    have h2' : (ok % 6 == 2) = false := beq_eq_false_iff_ne.2 h2
                    have h3' : (ok % 6 == 3) = false := beq_eq_false_iff_ne.2 h3
                    have h4' : (ok % 6 == 4) = true := by rw [beq_iff_eq]; exact h4
                    clear h4
                    have D1 := Lib.hid (mid_over HWH.out)
                    rw [show b.S.lost = b.lost from rfl] at D1
                    obtain ⟨ls, hls⟩ : ∃ ls, b.lost = ls := ⟨_, rfl⟩
                    rw [hls] at D1
                    go_wp2_with fail
                    refine D1.out.mono ?_
                    rintro e w4 ⟨rfl, M4⟩
                    have D2 := Lib.hid (mid_rover M4)
                    rw [hls] at D2
                    clear D1 M4 hls
                    have hll : (ls == ls) = true := by simp
                    go_wp2_with fail
                    refine D2.out.mono ?_
                    rintro e w5 ⟨rfl, M5⟩
                    have HP := Lib.hid (PE.mk M5 rfl)
                    clear D2 M5
                    go_wp2_with fail
                    go_meet
                    case rel => exact HP.out
                  · have HP := Lib.hid (PE.mk HWH.out rfl)
                    have h0' : (ok % 6 == 0) = false := beq_eq_false_iff_ne.2 h0
                    have h1' : (ok % 6 == 1) = false := beq_eq_false_iff_ne.2 h1
                    have h2' : (ok % 6 == 2) = false := beq_eq_false_iff_ne.2 h2
                    have h3' : (ok % 6 == 3) = false := beq_eq_false_iff_ne.2 h3
                    have h4' : (ok % 6 == 4) = false := beq_eq_false_iff_ne.2 h4
                    go_wp2_with fail
                    go_meet
                    case rel => exact HP.out
        case rest =>
          obtain ⟨rfl, b', HD⟩ := hcut
          have hbc := HD.bel
          have hzc := hbc.size
          obtain ⟨x, hx⟩ : ∃ x, (sent b'.tx).headD Fr.none_ = x := ⟨_, rfl⟩
          obtain ⟨is, his⟩ : ∃ is, (!(sent b'.tx).isEmpty) = is := ⟨_, rfl⟩
          obtain ⟨ΦD, g1, g2, -⟩ := id HD
          have N1 := Lib.hid (next_hd g1 (x := x) (ok := is) hx his)
          have N2 := Lib.hid (fun w' (hb : Below wc.heap.size wc w') => rnext_any (g2.below hb) hx his)
          have WT := Lib.hid (fun w' (hb : Below wc.heap.size wc w') => wait_any (g1.below hb))
          have TK := Lib.hid (fun w' (hb : Below wc.heap.size wc w') => taken_any (g1.below hb))
          obtain ⟨A1, c1, A2, c2, hrc⟩ := rb_cells g2
          obtain ⟨m, hm⟩ : ∃ m, b'.tx.length = m := ⟨_, rfl⟩
          obtain ⟨m2, hm2⟩ : ∃ m, b'.rx.length = m := ⟨_, rfl⟩
          rw [show b'.S.tx.length = m from (sent_length _).trans hm] at WT
          rw [show b'.S.rx.length = m2 from hm2] at TK
          rw [hm, hm2] at hrc
          have hm3 : (m : Int) ≤ 3 := by have := g2.2.1.t3; omega
          have hm4 : (m2 : Int) ≤ 4 := by have := g2.2.1.r4; omega
          have hmm : ((m : Int) != (m : Int)) = false := by simp
          have hmm2 : ((m2 : Int) != (m2 : Int)) = false := by simp
          have heq := fun w' => eq26_any x x w'
          rw [eqb_self'] at heq
          have hii : (is != is) = false := by simp
          have HRC := Lib.hid hrc
          have HDH := Lib.hid HD
          clear hx his g1 g2 hm hm2 hrc HD HWH ac
          go_wp2_with fail
          refine N1.out.mono ?_
          rintro e w4 ⟨rfl, b4⟩
          have b4a := b4.trans ((bl1 w4 (.cells x.cs.toArray 26)).mono b4.size)
          have X4 : Blk (w4.alloc (.cells x.cs.toArray 26)) w4.heap.size 26 x.cs.toArray := Blk.new _ _ _
          have N3 := Lib.hid (N2.out _ b4a)
          clear N1 N2
          go_wp2_with fail
          refine N3.out.mono ?_
          rintro e w5 ⟨rfl, b5⟩
          go_upto_region 28 with fail
          refine wp_named fun W5 hW5 => ?_
          obtain ⟨Y5, hb5⟩ := blk1 (c1 := x.cs.toArray) hW5
          have b5a := b5.trans (hb5.mono b5.size)
          have X5 := X4.below b5a
          have bw5 := b4a.trans (b5a.mono b4a.size)
          clear hW5 X4 N3
          have RX := X5.rule
          have RY := Y5.rule
          have RC : ∀ w', Below W5.heap.size W5 w' → w'.cell? ⟨r, 1, none⟩ = some (.slice A1 m c1) ∧ w'.cell? ⟨r, 2, none⟩ = some (.slice A2 m2 c2) := fun w' hb => HRC.out w' (bw5.trans (hb.mono bw5.size))
          have RC1 := fun w' hb => (RC w' hb).1
          have RC2 := fun w' hb => (RC w' hb).2
          have WT5 : Hid (∀ w', Below W5.heap.size W5 w' → Calls Try.prog 21 #[.pointer (some ⟨q, 0, none⟩)] w' fun e w2 => e = .returned (.int .i64 m) ∧ w' = w2) := Lib.hid fun w' hb => WT.out w' (bw5.trans (hb.mono bw5.size))
          have TK5 : Hid (∀ w', Below W5.heap.size W5 w' → Calls Try.prog 34 #[.pointer (some ⟨q, 0, none⟩)] w' fun e w2 => e = .returned (.int .i64 m2) ∧ w' = w2) := Lib.hid fun w' hb => TK.out w' (bw5.trans (hb.mono bw5.size))
          have FD : Hid (∀ w', Below W5.heap.size W5 w' → Duo w.heap.size q r w b' w') := Lib.hid fun w' hb => HDH.out.below (bw5.trans (hb.mono bw5.size))
          clear RC WT TK
          refine wp_region_c (fun w' => Below W5.heap.size W5 w') (by kernel_rfl) (by kernel_rfl) ((Below.refl _ _).drew) ?_
          repeat (first
            | (refine wpL_skip (by rfl) ?_; try simp only [Act.put, List.setIfInBounds_toArray, List.set_cons_zero, List.set_cons_succ, Nat.reduceAdd])
            | (refine wpL_val (v := ?_) (by rfl) ?_ ?_; rotate_left; · (intro w' hS; go_simp; first | done | with_reducible rfl)
               try simp only [Act.put, List.setIfInBounds_toArray, List.set_cons_zero, List.set_cons_succ, Nat.reduceAdd])
            | (refine wpL_call (v := ?_) (f := ?_) (args := ?_) (by rfl) ?_ ?_ ?_; rotate_left 3
               · (intro w' hS; go_simp; first | done | (refine ⟨?_, ?_⟩ <;> with_reducible rfl) | with_reducible rfl)
               · (intro w' hS; first
                   | ((with_reducible refine (WT5.out _ hS).mono ?_); rintro e w2 ⟨rfl, rfl⟩; refine ⟨?_, hS⟩; with_reducible rfl)
                   | ((with_reducible refine (TK5.out _ hS).mono ?_); rintro e w2 ⟨rfl, rfl⟩; refine ⟨?_, hS⟩; with_reducible rfl))
               try simp only [Act.put, List.setIfInBounds_toArray, List.set_cons_zero, List.set_cons_succ, Nat.reduceAdd]))
          refine wpL_done (fun w8 hS => ?_)
          go_wp2_with fail
          go_roundw
          case rel => exact FIN.out b' _ (FD.out _ hS)
          case measure => simp [intOf]; omega
      · obtain rfl : k = N := by omega
        go_wp2_with fail
        go_ret
        exact ⟨rfl, hbr⟩
end Go.Proofs.Ytbmkfjgodgmjnaa
