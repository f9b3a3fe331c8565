/- BoxRanks: the walk. -/
import Derived.Test.YtbmkfjgodgmjnaaC4
import Derived.Test.YtbmkfjgodgmjnaaConf
import Derived.Deep.QuietTactic
import Derived.BigQuiet
namespace Go.Proofs.Ytbmkfjgodgmjnaa
open Go.RowKit
set_option linter.unusedVariables false
set_option linter.unusedSimpArgs false
abbrev fl2' : List Flt := [⟨0, 0, false⟩, ⟨0, 0, true⟩]
/-- The box, its frames by Rank. -/
structure RK (B q : Nat) (Φ : Who) (a : Bx) (w : World) : Prop where
  b : BX Φ B w q a
  s : srt a.tx
  n : Nu Φ w
theorem RK.below {B q : Nat} {Φ : Who} {a : Bx} {w w' : World} (h : RK B q Φ a w) (hb : Below w.heap.size w w') : RK B q Φ a w' := ⟨h.b.below hb, h.s, h.n.below hb⟩
theorem takeX_tx (a : Bx) (f : Fr) : (takeX a f).tx = a.tx := by
  unfold takeX
  split
  · split <;> rfl
  · rfl
/-- The first that waits, and whether one does. -/
theorem next_hd {Φ : Who} {B q : Nat} {w : World} {a : Bx} (h : BX Φ B w q a) {x : Fr} {ok : Bool} (hx : a.tx.headD Fr.none_ = x) (ho : (!a.tx.isEmpty) = ok) : Calls Try.prog 19 #[.pointer (some ⟨q, 0, none⟩)] w fun e w' => e = .returned (.tuple #[x.val, .bool ok]) ∧ Below w.heap.size w w' := by
  subst hx ho
  exact next_any h
theorem eqb_self' (f : Fr) : f.eqb f = true := by simp [Fr.eqb]
/-- What is told is not looked at. -/
def RecvS (Φ : Who) (B q : Nat) (a : Bx) (w : World) (e : Ending) (w' : World) : Prop := ∃ v1 v2 Φ' a', e = .returned (.tuple #[v1, v2]) ∧ BX Φ' B w' q a' ∧ a'.tx = a.tx ∧ Ext B (Sq q) Φ Φ' w w'
theorem recv_st {Φ : Who} {B q : Nat} {w : World} {a : Bx} (h : BX Φ B w q a) (hN : Nu Φ w) : Calls Try.prog 23 #[.pointer (some ⟨q, 0, none⟩)] w (RecvS Φ B q a w) := by
  cases hr : a.rx with
  | nil =>
    refine (recv_no h hr).mono ?_
    rintro e w' ⟨rfl, hb⟩
    exact ⟨_, _, Φ, a, rfl, h.below hb, rfl, Ext.of_below hN hb⟩
  | cons f r =>
    refine (recv_yes h hN hr).mono ?_
    rintro e w' ⟨rfl, Φ', h1, h2⟩
    exact ⟨_, _, Φ', _, rfl, h1, rfl, h2⟩
set_option maxRecDepth 100000 in
set_option maxHeartbeats 4000000 in
theorem ranks_any (A : Option Addr) (n c : Nat) (l : List Ac) (w : World) (hx : l.length = n) (hn : n ≤ c) (hc : c ≤ maxLen) (hA : A = none → n = 0 ∧ c = 0) (hr : Rd w w.heap.size A (cellsA l)) (hwf : ∀ x ∈ l, x.wf) :
    Calls Try.prog 8 #[.slice A n c] w fun e w' => e = .returned (.bool true) ∧ Below w.heap.size w w' := by
  have FW := fun w => few_any A n c w hn (Nat.le_trans hn hc) hA
  unfold maxLen at hc
  obtain ⟨N, hN⟩ : ∃ N, min n 100 = N := ⟨_, rfl⟩
  rw [hN] at FW
  have FW := Lib.hid FW
  have hNn : N ≤ n := by omega
  have hN100 : N ≤ 100 := by omega
  have HX := Lib.hid hx
  clear hN hx
  go_enter Try.func8, Try.ntmps8
  go_wp2_with fail
  refine (shown_any _).mono ?_
  rintro e w1 ⟨rfl, b1⟩
  have z1 := b1.size
  have N1 := Lib.hid (new_lit (Φ := fun _ => (0, 9)) (B := w.heap.size) (nu0 w1) z1 fl2' 2 rfl (by decide) (by
    intro x hx
    simp at hx
    rcases hx with rfl | rfl <;> exact flt_wf _ _ _ (by decide) (by decide) (by decide) (by decide)))
  go_wp2_with fail
  refine N1.out.mono ?_
  rintro e w2 ⟨q, Φ2, rfl, hq, B2, x2⟩
  have x2 := Ext.trans (Ext.of_below (nu0 w1) (bl1 _ _)) x2
  have z2 := x2.size
  have k2 := b1.trans (x2.below z1)
  have HT2 : RK w.heap.size q Φ2 ⟨fl2', [], [], false⟩ w2 := ⟨B2, List.Pairwise.nil, x2.nu⟩
  clear N1 B2 x2
  go_wp2_with fail
  refine (FW.out _).mono ?_
  rintro e w' ⟨rfl, rfl⟩
  go_wp2_with fail
  go_loopw [35] (fun iv wr => ∃ (k : Nat) (Φ : Who) (a : Bx), k ≤ N ∧ iv = .int .i64 k ∧ RK w.heap.size q Φ a wr ∧ Below w.heap.size w wr) (fun iv _ => N - (intOf iv).toNat)
  case atStart => exact ⟨0, Φ2, _, Nat.zero_le _, rfl, HT2, k2⟩
  case round =>
    obtain ⟨k, Φ, a, hk, rfl, HT, hbr⟩ := hrel
    have hzr := hbr.size
    clear HT2 k2 FW
    by_cases hlt : k < N
    · have hlt' : (k : Int) < N := by omega
      obtain ⟨o, ho⟩ : ∃ o, l[k]? = some o := ⟨_, List.getElem?_eq_getElem (by rw [HX.out]; omega)⟩
      have how := hwf o (List.mem_of_getElem? ho)
      obtain ⟨b, ofs, ea, -, hc0⟩ := hr.below hbr (by intro h; have h2 := flatC_len Ac.cs 12 l (fun _ _ => rfl); rw [show flatC Ac.cs l = [] from h, HX.out] at h2; simp at h2; omega)
      have hc' : ∀ j u, o.cs[j]? = some u → wr.cell? ⟨b, ofs + (k * 12 + j), none⟩ = some u := fun j u hu => hc0 _ _ (flatC_at Ac.cs 12 l (fun _ _ => rfl) k o ho j u hu)
      have r0 := hc' 0 _ rfl
      have r1 := hc' 1 _ rfl
      have r2 := hc' 2 _ rfl
      have r3 := hc' 3 _ rfl
      have r4 := hc' 4 _ rfl
      have r5 := hc' 5 _ rfl
      have r6 := hc' 6 _ rfl
      have r7 := hc' 7 _ rfl
      have r8 := hc' 8 _ rfl
      have r9 := hc' 9 _ rfl
      have r10 := hc' 10 _ rfl
      have r11 := hc' 11 _ rfl
      rw [Nat.add_zero] at r0
      rw [← Nat.add_assoc] at r1 r2 r3 r4 r5 r6 r7 r8 r9 r10 r11
      clear hc' hc0 ho
      subst ea
      obtain ⟨ok, f⟩ := o
      have hf : f.wf := how.fw
      have k0 : 0 ≤ ok := how.k0
      have k1 : ok < 256 := how.k1
      clear how
      dsimp only at r0 r1 r2 r3 r4 r5 r6 r7 r8 r9 r10 r11
      go_upto_region 8 with fail
      refine wp_named fun W hW => ?_
      obtain ⟨BW, hbW⟩ := blk1 (c1 := (Ac.mk ok f).cs.toArray) hW
      clear hW r0 r1 r2 r3 r4 r5 r6 r7 r8 r9 r10 r11
      have hzW := hbW.size
      have HTW := HT.below hbW
      have FN : Φ wr.heap.size = (0, 9) := HT.n _ (Nat.le_refl _)
      have hbrW := hbr.trans (hbW.mono hzr)
      have hsrt := Lib.hid HT.s
      have ht3 := HT.b.2.1.t3
      have hr4 := HT.b.2.1.r4
      obtain ⟨x, hx⟩ : ∃ x, a.tx.headD Fr.none_ = x := ⟨_, rfl⟩
      obtain ⟨is, his⟩ : ∃ is, (!a.tx.isEmpty) = is := ⟨_, rfl⟩
      obtain ⟨m, hm⟩ : ∃ m, a.tx.length = m := ⟨_, rfl⟩
      have NX := Lib.hid (next_hd HTW.b hx his)
      have HXX := Lib.hid hx
      have HIS := Lib.hid his
      have HMM := Lib.hid hm
      have HTWH := Lib.hid HTW
      rw [hm] at ht3
      clear HT HTW hx his hm
      go_wp2_with fail
      refine NX.out.mono ?_
      rintro e w3 ⟨rfl, b3⟩
      have z3 := b3.size
      have b3a := b3.trans ((bl1 w3 (.cells x.cs.toArray 26)).mono z3)
      have WT := wait_any (HTWH.out.b.below b3a)
      rw [HMM.out] at WT
      have WT := Lib.hid WT
      have BX3 : Blk (w3.alloc (.cells x.cs.toArray 26)) w3.heap.size 26 x.cs.toArray := Blk.new _ _ _
      have BW3 := BW.below b3a
      clear NX
      go_wp2_with fail
      refine WT.out.mono ?_
      rintro e w4 ⟨rfl, hw4⟩
      subst hw4
      have HB4 := HTWH.out.b.below b3a
      have hn4 := HTWH.out.n.below b3a
      have hb4 : Below w.heap.size w (w3.alloc (.cells x.cs.toArray 26)) := hbrW.trans (b3a.mono (by omega))
      have FX4 : BlC Φ (0, 9) (w3.alloc (.cells x.cs.toArray 26)) w3.heap.size 26 x.cs.toArray := ⟨BX3, HTWH.out.n _ z3⟩
      have FA4 : BlC Φ (0, 9) (w3.alloc (.cells x.cs.toArray 26)) wr.heap.size 52 (Ac.mk ok f).cs.toArray := ⟨BW3, FN⟩
      have hz44 := hb4.size
      have FIN : Hid (∀ Φ a W, RK w.heap.size q Φ a W → Below w.heap.size w W → ∃ (k' : Nat) (Φ : Who) (a : Bx), k' ≤ N ∧ Value.int .i64 ((k + 1 : Nat) : Int) = .int .i64 k' ∧ RK w.heap.size q Φ a W ∧ Below w.heap.size w W) := Lib.hid fun Φ a W h1 h2 => ⟨k + 1, Φ, a, by omega, rfl, h1, h2⟩
      have ac := FA4.1.cell
      clear BX3 BW3 BW WT b3 b3a hbW
      by_cases h0 : ok % 6 = 0
      · have h0' : (ok % 6 == 0) = true := by rw [beq_iff_eq]; exact h0
        have S := Lib.hid (send_any HB4 hz44 hn4 f hf)
        obtain ⟨E, hE⟩ : ∃ E, sendE a f = E := ⟨_, rfl⟩
        obtain ⟨a5, ha5⟩ : ∃ a5, sendX a f = a5 := ⟨_, rfl⟩
        rw [hE, ha5] at S
        have HE := Lib.hid hE
        have HA5 := Lib.hid ha5
        clear hE ha5
        go_wp2_with fail
        refine S.out.mono ?_
        rintro e w5 ⟨rfl, Φ5, B5, x5⟩
        have FX5 := FX4.ext x5 (Sq.no9 q)
        have FA5 := FA4.ext x5 (Sq.no9 q)
        have hb5 := hb4.trans (x5.below hz44)
        have n5 := x5.nu
        obtain ⟨y, hy⟩ : ∃ y, a5.tx.headD Fr.none_ = y := ⟨_, rfl⟩
        obtain ⟨iy, hiy⟩ : ∃ iy, (!a5.tx.isEmpty) = iy := ⟨_, rfl⟩
        have NX := Lib.hid (next_hd B5 hy hiy)
        have HY := Lib.hid hy
        clear S ac x5 hy hiy HB4 FX4 FA4
        go_wp2_with fail
        refine NX.out.mono ?_
        rintro e w6 ⟨rfl, b6⟩
        go_upto_region 21 with fail
        refine wp_named fun W6 hW6 => ?_
        obtain ⟨BY, hbW6⟩ := blk1 (c1 := y.cs.toArray) hW6
        clear hW6 NX
        have b6a := b6.trans (hbW6.mono b6.size)
        have FX6 := FX5.1.below b6a
        have FA6 := FA5.1.below b6a
        have B6H := Lib.hid (B5.below b6a)
        have n6 := n5.below b6a
        have hb6 := hb5.trans (b6a.mono hb5.size)
        have hz6 := hb6.size
        clear B5 FX5 FA5
        by_cases hE0 : E = 0
        · subst hE0
          have htx : a5.tx = insB a.tx f := by
            rw [← HA5.out]
            unfold sendX
            rw [HE.out, if_pos rfl]
          obtain ⟨S, hS0⟩ : ∃ S, m + 1 = S := ⟨_, rfl⟩
          have hln : a5.tx.length = S := by rw [htx, insB_len, HMM.out, hS0]
          have hw1 : IntKind.i64.wrap ((m : Int) + 1) = (S : Int) := by rw [← hS0]; exact IntWalk.i64_in _ (by omega)
          have WT := Lib.hid (fun W' (hb : Below W6.heap.size W6 W') => wait_any (B6H.out.below hb))
          rw [hln] at WT
          have hyw : y.wf := by
            rw [← HY.out]
            cases htl : a5.tx with
            | nil => exact ⟨by decide, by decide, by decide, by decide, fun i => by simp [List.headD, Fr.none_, Fr.g]⟩
            | cons g r => exact B6H.out.2.1.tw g (by rw [htl]; simp)
          have hxw : x.wf := by
            rw [← HXX.out]
            cases htl : a.tx with
            | nil => exact ⟨by decide, by decide, by decide, by decide, fun i => by simp [List.headD, Fr.none_, Fr.g]⟩
            | cons g r => exact HTWH.out.b.2.1.tw g (by rw [htl]; simp)
          have hih := ins_head hsrt.out f
          rw [← htx, HY.out, HXX.out] at hih
          have hsx : is = true → a.tx ≠ [] := fun h e => by
            have := HIS.out
            rw [e, h] at this
            simp at this
          have R1 := Lib.hid (fun w => refrank_any y w hyw)
          have R2 := Lib.hid (fun w => refrank_any f w hf)
          have R3 := Lib.hid (fun w => refrank_any x w hxw)
          obtain ⟨r1, hr1⟩ : ∃ r1, y.rank = r1 := ⟨_, rfl⟩
          obtain ⟨r2, hr2⟩ : ∃ r2, f.rank = r2 := ⟨_, rfl⟩
          obtain ⟨r3, hr3⟩ : ∃ r3, x.rank = r3 := ⟨_, rfl⟩
          rw [hr1] at R1
          rw [hr2] at R2
          rw [hr3] at R3
          rw [hr1, hr2, hr3] at hih
          have hd12 : decide (r2 < r1) = false := decide_eq_false (by have := hih.1; omega)
          have H13 : Hid (is = true → decide (r3 < r1) = false) := Lib.hid fun h => decide_eq_false (by have := hih.2 (hsx h); omega)
          have hss := Lib.hid (insB_srt hsrt.out f)
          rw [← htx] at hss
          have HFX : Hid (∀ W, Below W6.heap.size W6 W → RK w.heap.size q Φ5 a5 W ∧ Below w.heap.size w W) := Lib.hid fun W hb => ⟨⟨B6H.out.below hb, hss.out, n6.below hb⟩, hb6.trans (hb.mono hz6)⟩
          have RX : ∀ w', Below W6.heap.size W6 w' → ∀ i, w'.cell? ⟨w3.heap.size, i, none⟩ = x.cs.toArray[i]? := fun w' hb => (FX6.below hb).cell
          have RY : ∀ w', Below W6.heap.size W6 w' → ∀ i, w'.cell? ⟨w6.heap.size, i, none⟩ = y.cs.toArray[i]? := fun w' hb => (BY.below hb).cell
          have RA : ∀ w', Below W6.heap.size W6 w' → ∀ i, w'.cell? ⟨wr.heap.size, i, none⟩ = (Ac.mk ok f).cs.toArray[i]? := fun w' hb => (FA6.below hb).cell
          clear hr1 hr2 hr3 hih hsx htx hln hS0 hyw hxw
          refine wp_region_c (fun w' => Below W6.heap.size W6 w') (by kernel_rfl) (by kernel_rfl) ((Below.refl _ _).drew) ?_
          repeat (first
            | (refine wpL_skip (by rfl) ?_; try simp only [Act.put, List.setIfInBounds_toArray, List.set_cons_zero, List.set_cons_succ, Nat.reduceAdd])
            | (refine wpL_val (v := ?_) (by rfl) ?_ ?_; rotate_left; · (intro w' hS; go_simp; first | done | with_reducible rfl)
               try simp only [Act.put, List.setIfInBounds_toArray, List.set_cons_zero, List.set_cons_succ, Nat.reduceAdd])
            | (refine wpL_call (v := ?_) (f := ?_) (args := ?_) (by rfl) ?_ ?_ ?_; rotate_left 3
               · (intro w' hS; go_simp; first | done | (refine ⟨?_, ?_⟩ <;> with_reducible rfl) | with_reducible rfl)
               · (intro w' hS; first
                   | ((with_reducible refine (WT.out _ hS).mono ?_); rintro e w2 ⟨rfl, rfl⟩; refine ⟨?_, hS⟩; with_reducible rfl)
                   | ((with_reducible refine (R1.out _).mono ?_); rintro e w2 ⟨rfl, hb⟩; refine ⟨?_, bel2 hS hb⟩; with_reducible rfl)
                   | ((with_reducible refine (R2.out _).mono ?_); rintro e w2 ⟨rfl, hb⟩; refine ⟨?_, bel2 hS hb⟩; with_reducible rfl))
               try simp only [Act.put, List.setIfInBounds_toArray, List.set_cons_zero, List.set_cons_succ, Nat.reduceAdd]))
          refine wpL_done (fun w8 hS => ?_)
          have HS8 := Lib.hid hS
          clear RA
          cases is with
          | false =>
            go_wp2_with fail
            go_quiet (fail)
            have HB := Lib.hid (bel2 HS8.out (bel_drewN (Below.refl w8.heap.size w8) nq))
            go_wp2_with fail
            go_roundw
            case rel => exact FIN.out _ _ _ (HFX.out _ HB.out).1 (HFX.out _ HB.out).2
            case measure => simp [intOf]; omega
          | true =>
            have h13 := H13.out rfl
            have hx8 := hS.size
            go_wp2_with fail
            refine wp_region_c (fun w' => Below W6.heap.size W6 w') (by kernel_rfl) (by kernel_rfl) (hS.drew) ?_
            repeat (first
              | (refine wpL_skip (by rfl) ?_; try simp only [Act.put, List.setIfInBounds_toArray, List.set_cons_zero, List.set_cons_succ, Nat.reduceAdd])
              | (refine wpL_val (v := ?_) (by rfl) ?_ ?_; rotate_left; · (intro w' hS; go_simp; first | done | with_reducible rfl)
                 try simp only [Act.put, List.setIfInBounds_toArray, List.set_cons_zero, List.set_cons_succ, Nat.reduceAdd])
              | (refine wpL_call (v := ?_) (f := ?_) (args := ?_) (by rfl) ?_ ?_ ?_; rotate_left 3
                 · (intro w' hS; go_simp; first | done | (refine ⟨?_, ?_⟩ <;> with_reducible rfl) | with_reducible rfl)
                 · (intro w' hS; first
                     | ((with_reducible refine (R1.out _).mono ?_); rintro e w2 ⟨rfl, hb⟩; refine ⟨?_, bel2 hS hb⟩; with_reducible rfl)
                     | ((with_reducible refine (R3.out _).mono ?_); rintro e w2 ⟨rfl, hb⟩; refine ⟨?_, bel2 hS hb⟩; with_reducible rfl))
                 try simp only [Act.put, List.setIfInBounds_toArray, List.set_cons_zero, List.set_cons_succ, Nat.reduceAdd]))
            refine wpL_done (fun w9 hS => ?_)
            go_wp2_with fail
            go_roundw
            case rel => exact FIN.out _ _ _ (HFX.out _ hS).1 (HFX.out _ hS).2
            case measure => simp [intOf]; omega
        · have hE1 : (E != 0) = true := by simpa using hE0
          have hE2 : (E == 0) = false := beq_eq_false_iff_ne.2 hE0
          have haa : a5 = a := by
            rw [← HA5.out]
            unfold sendX
            rw [HE.out, if_neg hE0]
          subst haa
          obtain rfl : y = x := by rw [← HY.out]; exact HXX.out
          have L := Lib.hid fun nq => wait_any (B6H.out.below (bel_drewN (Below.refl W6.heap.size W6) nq))
          rw [HMM.out] at L
          have hmm : ((m : Int) != (m : Int)) = false := by simp
          go_quiet ((go_at_call 21; exact Calls.quiet_of_same ((L.out _).mono (by rintro e w' ⟨rfl, rfl⟩; exact ⟨rfl, rfl⟩))))
          go_wp2_with fail
          have hxw : y.wf := by
            rw [← HXX.out]
            cases htl : a5.tx with
            | nil => exact ⟨by decide, by decide, by decide, by decide, fun i => by simp [List.headD, Fr.none_, Fr.g]⟩
            | cons g r => exact HTWH.out.b.2.1.tw g (by rw [htl]; simp)
          have R1 := Lib.hid (fun w => refrank_any y w hxw)
          obtain ⟨r1, hr1⟩ : ∃ r1, y.rank = r1 := ⟨_, rfl⟩
          rw [hr1] at R1
          have hd : decide (r1 < r1) = false := decide_eq_false (by omega)
          have bq := bel_drewN (Below.refl W6.heap.size W6) nq
          have HFX : Hid (∀ W, Below W6.heap.size W6 W → RK w.heap.size q Φ5 a5 W ∧ Below w.heap.size w W) := Lib.hid fun W hb => ⟨⟨B6H.out.below hb, hsrt.out, n6.below hb⟩, hb6.trans (hb.mono hz6)⟩
          have FX7 := FX6.below bq
          have BY7 := BY.below bq
          have hz7 := bq.size
          have bq' := bq
          generalize W6.drewN nq = W7 at *
          clear hr1 FX6 BY FA6 L
          have RX : ∀ w', Below W7.heap.size W7 w' → ∀ i, w'.cell? ⟨w3.heap.size, i, none⟩ = y.cs.toArray[i]? := fun w' hb => (FX7.below hb).cell
          have RY : ∀ w', Below W7.heap.size W7 w' → ∀ i, w'.cell? ⟨w6.heap.size, i, none⟩ = y.cs.toArray[i]? := fun w' hb => (BY7.below hb).cell
          cases is with
          | false =>
            go_quiet (fail)
            go_wp2_with fail
            have HB := Lib.hid (bq'.trans ((bel_drewN (Below.refl W7.heap.size W7) nq).mono hz7))
            go_roundw
            case rel => exact FIN.out _ _ _ (HFX.out _ HB.out).1 (HFX.out _ HB.out).2
            case measure => simp [intOf]; omega
          | true =>
            refine wp_region_c (fun w' => Below W7.heap.size W7 w') (by kernel_rfl) (by kernel_rfl) ((Below.refl _ _).drew) ?_
            repeat (first
              | (refine wpL_skip (by rfl) ?_; try simp only [Act.put, List.setIfInBounds_toArray, List.set_cons_zero, List.set_cons_succ, Nat.reduceAdd])
              | (refine wpL_val (v := ?_) (by rfl) ?_ ?_; rotate_left; · (intro w' hS; go_simp; first | done | with_reducible rfl)
                 try simp only [Act.put, List.setIfInBounds_toArray, List.set_cons_zero, List.set_cons_succ, Nat.reduceAdd])
              | (refine wpL_call (v := ?_) (f := ?_) (args := ?_) (by rfl) ?_ ?_ ?_; rotate_left 3
                 · (intro w' hS; go_simp; first | done | (refine ⟨?_, ?_⟩ <;> with_reducible rfl) | with_reducible rfl)
                 · (intro w' hS; first
                     | ((with_reducible refine (R1.out _).mono ?_); rintro e w2 ⟨rfl, hb⟩; refine ⟨?_, bel2 hS hb⟩; with_reducible rfl))
                 try simp only [Act.put, List.setIfInBounds_toArray, List.set_cons_zero, List.set_cons_succ, Nat.reduceAdd]))
            refine wpL_done (fun w8 hS => ?_)
            go_wp2_with fail
            go_roundw
            case rel => exact FIN.out _ _ _ (HFX.out _ (bq'.trans (hS.mono hz7))).1 (HFX.out _ (bq'.trans (hS.mono hz7))).2
            case measure => simp [intOf]; omega
      · by_cases h1 : ok % 6 = 1
        · have h0' : (ok % 6 == 0) = false := beq_eq_false_iff_ne.2 h0
          have h1' : (ok % 6 == 1) = true := by rw [beq_iff_eq]; exact h1
          have D := Lib.hid (done_any HB4 hn4)
          go_wp2_with fail
          refine D.out.mono ?_
          rintro e w5 ⟨rfl, Φ5, B5, x5⟩
          have FX5 := FX4.ext x5 (Sq.no9 q)
          have hb5 := hb4.trans (x5.below hz44)
          have n5 := x5.nu
          obtain ⟨y, hy⟩ : ∃ y, a.tx.tail.headD Fr.none_ = y := ⟨_, rfl⟩
          obtain ⟨iy, hiy⟩ : ∃ iy, (!a.tx.tail.isEmpty) = iy := ⟨_, rfl⟩
          have NX := Lib.hid (next_hd B5 hy hiy)
          have hyw : y.wf := by
            rw [← hy]
            cases htl : a.tx.tail with
            | nil => exact ⟨by decide, by decide, by decide, by decide, fun i => by simp [List.headD, Fr.none_, Fr.g]⟩
            | cons g r => exact HTWH.out.b.2.1.tw g (List.mem_of_mem_tail (by rw [htl]; simp))
          have hxw : x.wf := by
            rw [← HXX.out]
            cases htl : a.tx with
            | nil => exact ⟨by decide, by decide, by decide, by decide, fun i => by simp [List.headD, Fr.none_, Fr.g]⟩
            | cons g r => exact HTWH.out.b.2.1.tw g (by rw [htl]; simp)
          have HY := Lib.hid hy
          have hrk : Hid (2 ≤ m → iy = true ∧ x.rank ≤ y.rank) := Lib.hid fun h => by
            have hne : a.tx.tail ≠ [] := by
              intro e
              have := congrArg List.length e
              rw [List.length_tail, HMM.out] at this
              simp at this
              omega
            refine ⟨by rw [← hiy]; cases htl : a.tx.tail with
              | nil => exact absurd htl hne
              | cons g r => rfl, ?_⟩
            rw [← HXX.out, ← HY.out]
            exact tail_head hsrt.out hne
          have hno : Hid (m ≤ 1 → iy = false) := Lib.hid fun h => by
            rw [← hiy]
            have : a.tx.tail = [] := List.eq_nil_of_length_eq_zero (by rw [List.length_tail, HMM.out]; omega)
            rw [this]
            rfl
          have hlt : Hid (a.tx.tail.length = m - 1) := Lib.hid (by rw [List.length_tail, HMM.out])
          have B5H := Lib.hid B5
          have R1 := Lib.hid (fun w => refrank_any x w hxw)
          have R2 := Lib.hid (fun w => refrank_any y w hyw)
          obtain ⟨r1, hr1⟩ : ∃ r1, x.rank = r1 := ⟨_, rfl⟩
          obtain ⟨r2, hr2⟩ : ∃ r2, y.rank = r2 := ⟨_, rfl⟩
          rw [hr1] at R1
          rw [hr2] at R2
          rw [hr1, hr2] at hrk
          clear D ac x5 hy hiy hr1 hr2 B5
          go_wp2_with fail
          refine NX.out.mono ?_
          rintro e w6 ⟨rfl, b6⟩
          go_upto_region 28 with fail
          refine wp_named fun W6 hW6 => ?_
          obtain ⟨BY, hbW6⟩ := blk1 (c1 := y.cs.toArray) hW6
          clear hW6 NX
          have b6a := b6.trans (hbW6.mono b6.size)
          have FX6 := FX5.1.below b6a
          have B6H := Lib.hid (B5H.out.below b6a)
          have n6 := n5.below b6a
          have hb6 := hb5.trans (b6a.mono hb5.size)
          have hz6 := hb6.size
          have WT := Lib.hid (fun W' (hb : Below W6.heap.size W6 W') => wait_any (B6H.out.below hb))
          rw [hlt.out] at WT
          have hw1 : IntKind.i64.wrap (-1) = -1 := rfl
          have hw2 : IntKind.i64.wrap 0 = 0 := rfl
          have hw3 : IntKind.i64.wrap 1 = 1 := rfl
          have hw4 : IntKind.i64.wrap 2 = 2 := rfl
          have RX : ∀ w', Below W6.heap.size W6 w' → ∀ i, w'.cell? ⟨w3.heap.size, i, none⟩ = x.cs.toArray[i]? := fun w' hb => (FX6.below hb).cell
          have RY : ∀ w', Below W6.heap.size W6 w' → ∀ i, w'.cell? ⟨w6.heap.size, i, none⟩ = y.cs.toArray[i]? := fun w' hb => (BY.below hb).cell
          have HFX : Hid (∀ W, Below W6.heap.size W6 W → RK w.heap.size q Φ5 { a with tx := a.tx.tail } W ∧ Below w.heap.size w W) := Lib.hid fun W hb => ⟨⟨B6H.out.below hb, srt_tail hsrt.out, n6.below hb⟩, hb6.trans (hb.mono hz6)⟩
          rcases (by omega : m = 0 ∨ m = 1 ∨ m = 2 ∨ m = 3) with rfl | rfl | rfl | rfl
          · obtain rfl : iy = false := hno.out (by omega)
            have L := Lib.hid fun nq => WT.out _ (bel_drewN (Below.refl W6.heap.size W6) nq)
            go_quiet ((go_at_call 21; exact Calls.quiet_of_same ((L.out _).mono (by rintro e w' ⟨rfl, rfl⟩; exact ⟨rfl, rfl⟩))))
            go_wp2_with fail
            go_roundw
            case rel => exact FIN.out _ _ _ (HFX.out _ (bel_drewN (Below.refl _ _) nq)).1 (HFX.out _ (bel_drewN (Below.refl _ _) nq)).2
            case measure => simp [intOf]; omega
          · obtain rfl : iy = false := hno.out (by omega)
            have L := Lib.hid fun nq => WT.out _ (bel_drewN (Below.refl W6.heap.size W6) nq)
            go_quiet ((go_at_call 21; exact Calls.quiet_of_same ((L.out _).mono (by rintro e w' ⟨rfl, rfl⟩; exact ⟨rfl, rfl⟩))))
            go_wp2_with fail
            go_roundw
            case rel => exact FIN.out _ _ _ (HFX.out _ (bel_drewN (Below.refl _ _) nq)).1 (HFX.out _ (bel_drewN (Below.refl _ _) nq)).2
            case measure => simp [intOf]; omega
          · obtain ⟨rfl, hrr⟩ := hrk.out (by omega)
            have hd : decide (r2 < r1) = false := decide_eq_false (by omega)
            go_region_held3 (fun w' => Below W6.heap.size W6 w') (first | exact (Below.refl _ _).drew | assumption | exact bel2 (by assumption) (by assumption))
              (first
                | (go_at_call 21; (with_reducible refine (WT.out _ (by first | assumption | exact (Below.refl _ _).drew)).mono ?_); rintro e w7 ⟨rfl, rfl⟩)
                | (go_at_call 20; (with_reducible refine (R2.out _).mono ?_); rintro e w8 ⟨rfl, b8⟩)
                | (go_at_call 20; (with_reducible refine (R1.out _).mono ?_); rintro e w9 ⟨rfl, b9⟩))
            all_goals
              have hbE : Below W6.heap.size W6 w9 := by first | assumption | exact bel2 (by assumption) (by assumption)
              go_wp2_with fail
              go_roundw
              case rel => exact FIN.out _ _ _ (HFX.out _ hbE).1 (HFX.out _ hbE).2
              case measure => simp [intOf]; omega
          · obtain ⟨rfl, hrr⟩ := hrk.out (by omega)
            have hd : decide (r2 < r1) = false := decide_eq_false (by omega)
            go_region_held3 (fun w' => Below W6.heap.size W6 w') (first | exact (Below.refl _ _).drew | assumption | exact bel2 (by assumption) (by assumption))
              (first
                | (go_at_call 21; (with_reducible refine (WT.out _ (by first | assumption | exact (Below.refl _ _).drew)).mono ?_); rintro e w7 ⟨rfl, rfl⟩)
                | (go_at_call 20; (with_reducible refine (R2.out _).mono ?_); rintro e w8 ⟨rfl, b8⟩)
                | (go_at_call 20; (with_reducible refine (R1.out _).mono ?_); rintro e w9 ⟨rfl, b9⟩))
            all_goals
              have hbE : Below W6.heap.size W6 w9 := by first | assumption | exact bel2 (by assumption) (by assumption)
              go_wp2_with fail
              go_roundw
              case rel => exact FIN.out _ _ _ (HFX.out _ hbE).1 (HFX.out _ hbE).2
              case measure => simp [intOf]; omega
        · have h0' : (ok % 6 == 0) = false := beq_eq_false_iff_ne.2 h0
          have h1' : (ok % 6 == 1) = false := beq_eq_false_iff_ne.2 h1
          have T := Lib.hid (take_any HB4 hz44 hn4 f hf)
          go_wp2_with fail
          refine T.out.mono ?_
          rintro e w5 ⟨rfl, Φ5, B5, x5⟩
          have FX5 := FX4.ext x5 (Sq.no9 q)
          have FA5 := FA4.ext x5 (Sq.no9 q)
          have V := Lib.hid (over_any B5 x5.nu)
          have hb5 := hb4.trans (x5.below hz44)
          clear T ac HB4 FX4 FA4
          go_wp2_with fail
          refine V.out.mono ?_
          rintro e w6 ⟨rfl, Φ6, B6, x6⟩
          have FX6 := FX5.ext x6 (Sq.no9 q)
          have FA6 := FA5.ext x6 (Sq.no9 q)
          have hb6 := hb5.trans (x6.below hb5.size)
          have n6 := x6.nu
          have ac6 := FA6.1.cell
          have htx6 : Hid (({ takeX a f with lost := false } : Bx).tx = a.tx) := Lib.hid (takeX_tx a f)
          clear V FX5 FA5 B5 x5 x6
          by_cases h3 : ok % 6 = 3
          · have h3' : (ok % 6 == 3) = true := by rw [beq_iff_eq]; exact h3
            have RC := Lib.hid (recv_st B6 n6)
            clear B6
            go_wp2_with fail
            refine RC.out.mono ?_
            rintro e w7 ⟨v1, v2, Φ7, a7, rfl, B7, htx7, x7⟩
            have htx7 : Hid (a7.tx = a.tx) := Lib.hid (htx7.trans htx6.out)
            have FX7 := FX6.ext x7 (Sq.no9 q)
            have hb7 := hb6.trans (x7.below hb6.size)
            have n7 := x7.nu
            clear RC x7 ac6 FX6
            have NX := Lib.hid (next_hd B7 (x := x) (ok := is) (by rw [htx7.out]; exact HXX.out) (by rw [htx7.out]; exact HIS.out))
            have B7H := Lib.hid B7
            clear B7
            go_wp2_with fail
            refine NX.out.mono ?_
            rintro e w8 ⟨rfl, b8⟩
            have b8a := b8.trans ((bl1 w8 (.cells x.cs.toArray 26)).mono b8.size)
            have BX8 : Blk (w8.alloc (.cells x.cs.toArray 26)) w8.heap.size 26 x.cs.toArray := Blk.new _ _ _
            have bx8 := BX8.cell
            have fx8 := (FX7.1.below b8a).cell
            have WT := wait_any (B7H.out.below b8a)
            rw [htx7.out, HMM.out] at WT
            have WT := Lib.hid WT
            have r47 := B7H.out.2.1.r4
            obtain ⟨m7, hm7⟩ : ∃ m7, a7.rx.length = m7 := ⟨_, rfl⟩
            have TK := taken_any (B7H.out.below b8a)
            rw [hm7] at TK r47
            have TK := Lib.hid TK
            have r47' : (m7 : Int) ≤ 4 := by omega
            have heq := fun w' => eq26_any x x w'
            rw [eqb_self'] at heq
            have hii : (is != is) = false := by simp
            have hmm : ((m : Int) != (m : Int)) = false := by simp
            clear NX hm7 BX8
            go_wp2_with fail
            refine WT.out.mono ?_
            rintro e w9 ⟨rfl, hw9⟩
            subst hw9
            go_wp2_with fail
            refine TK.out.mono ?_
            rintro e w9 ⟨rfl, hw9⟩
            subst hw9
            go_wp2_with fail
            go_roundw
            case rel => exact FIN.out Φ7 a7 _ ⟨B7H.out.below b8a, by rw [htx7.out]; exact hsrt.out, n7.below b8a⟩ (hb7.trans (b8a.mono hb7.size))
            case measure => simp [intOf]; omega
          · have h3' : (ok % 6 == 3) = false := beq_eq_false_iff_ne.2 h3
            obtain ⟨a7, ha7⟩ : ∃ a7, ({ takeX a f with lost := false } : Bx) = a7 := ⟨_, rfl⟩
            rw [ha7] at B6 htx6
            clear ha7
            have B7 := B6
            have htx7 := htx6
            have FX7 := FX6
            have hb7 := hb6
            have n7 := n6
            generalize Φ6 = Φ7 at *
            clear B6 htx6 FX6 hb6 n6
            have NX := Lib.hid (next_hd B7 (x := x) (ok := is) (by rw [htx7.out]; exact HXX.out) (by rw [htx7.out]; exact HIS.out))
            have B7H := Lib.hid B7
            clear B7
            go_wp2_with fail
            refine NX.out.mono ?_
            rintro e w8 ⟨rfl, b8⟩
            have b8a := b8.trans ((bl1 w8 (.cells x.cs.toArray 26)).mono b8.size)
            have BX8 : Blk (w8.alloc (.cells x.cs.toArray 26)) w8.heap.size 26 x.cs.toArray := Blk.new _ _ _
            have bx8 := BX8.cell
            have fx8 := (FX7.1.below b8a).cell
            have WT := wait_any (B7H.out.below b8a)
            rw [htx7.out, HMM.out] at WT
            have WT := Lib.hid WT
            have r47 := B7H.out.2.1.r4
            obtain ⟨m7, hm7⟩ : ∃ m7, a7.rx.length = m7 := ⟨_, rfl⟩
            have TK := taken_any (B7H.out.below b8a)
            rw [hm7] at TK r47
            have TK := Lib.hid TK
            have r47' : (m7 : Int) ≤ 4 := by omega
            have heq := fun w' => eq26_any x x w'
            rw [eqb_self'] at heq
            have hii : (is != is) = false := by simp
            have hmm : ((m : Int) != (m : Int)) = false := by simp
            clear NX hm7 BX8
            go_wp2_with fail
            refine WT.out.mono ?_
            rintro e w9 ⟨rfl, hw9⟩
            subst hw9
            go_wp2_with fail
            refine TK.out.mono ?_
            rintro e w9 ⟨rfl, hw9⟩
            subst hw9
            go_wp2_with fail
            go_roundw
            case rel => exact FIN.out Φ7 a7 _ ⟨B7H.out.below b8a, by rw [htx7.out]; exact hsrt.out, n7.below b8a⟩ (hb7.trans (b8a.mono hb7.size))
            case measure => simp [intOf]; omega
    · obtain rfl : k = N := by omega
      have WT := wait_any HT.b
      have ht3 := HT.b.2.1.t3
      obtain ⟨m, hm⟩ : ∃ m, a.tx.length = m := ⟨_, rfl⟩
      rw [hm] at WT ht3
      have ht3' : (m : Int) ≤ 3 := by omega
      have WT := Lib.hid WT
      clear hm HT
      go_wp2_with fail
      refine WT.out.mono ?_
      rintro e w' ⟨rfl, rfl⟩
      go_wp2_with fail
      go_ret
      exact ⟨rfl, hbr⟩
end Go.Proofs.Ytbmkfjgodgmjnaa
