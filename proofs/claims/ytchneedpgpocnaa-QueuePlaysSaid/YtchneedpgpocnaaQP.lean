/- QueuePlays: the walk. -/
import Derived.Test.YtchneedpgpocnaaRK
import Derived.Deep.RegionHeldLaw
import Derived.Deep.QuietTactic
import Derived.BigQuiet
namespace Go.Proofs.Ytchneedpgpocnaa
open Go.RowKit
set_option linter.unusedVariables false
set_option linter.unusedSimpArgs false
/-- The act's block, and that nothing older than B was written. -/
def SS (B : Nat) (w0 : World) (g : Nat) (cs : Array Value) (w' : World) : Prop := Blk w' g 48 cs ∧ Below B w0 w'
theorem SS.step {B g : Nat} {w0 w w' : World} {cs : Array Value} (h : SS B w0 g cs w) (hF : FrB w w') (hb : Below B w w') : SS B w0 g cs w' := ⟨hF _ _ _ h.1 (by decide) (by decide) (by decide), h.2.trans hb⟩
theorem SS.drew {B g : Nat} {w0 w : World} {cs : Array Value} (h : SS B w0 g cs w) : SS B w0 g cs w.drew := ⟨h.1.drew, h.2.drew⟩
def hdA (a : Aq) : Int × Int × List Int := a.l.headD (0, 0, [])
def okA (a : Aq) : Bool := !a.l.isEmpty
def tlA (a : Aq) : Aq := ⟨a.most, a.l.tail, a.lost⟩
theorem tlA_le (a : Aq) : (tlA a).l.length ≤ a.l.length ∧ (tlA a).most = a.most := ⟨by simp [tlA], rfl⟩
section
variable {B bf b3 : Nat} {AF : Option Addr} {cF N : Nat} {outs : List Ac} {q q2 : Nat} {a a' : Aq} {w : World}
theorem PL.nextA (h : PL B bf b3 AF cF N outs q q2 a a' w) (hB : B ≤ w.heap.size) (hal : a.l.length ≤ 1000000) {x y : Int} {z : List Int} {K : Bool} {a2 : Aq} (e1 : hdA a = (x, y, z)) (e2 : okA a = K) (e3 : tlA a = a2) :
    Calls Try.prog 10 #[.pointer (some ⟨q, 0, none⟩)] w fun e w' => ∃ A n c, e = .returned (.tuple #[.agg #[.int .u8 x, .int .u8 y, .slice A n c], .bool K]) ∧ z.length = n ∧ Own w' 0 5 1 A n c (u8s z) ∧ PL B bf b3 AF cF N outs q q2 a2 a' w' ∧ Below B w w' := by
  obtain ⟨m, l, lost⟩ := a
  subst e2 e3
  cases l with
  | nil =>
    simp only [hdA, List.headD, Prod.mk.injEq] at e1
    obtain ⟨rfl, rfl, rfl⟩ := e1
    refine h.next0.mono ?_
    rintro e w' ⟨rfl, hb⟩
    exact ⟨none, 0, 0, rfl, rfl, Own.nil _ _ _ _, h.below hb, hb.mono hB⟩
  | cons k l =>
    simp only [hdA, List.headD] at e1
    subst e1
    refine (h.next (by simp at hal; omega)).mono ?_
    rintro e w' ⟨A, n, c, rfl, h1, h2, h3, h4, h5⟩
    exact ⟨A, n, c, rfl, h1, h2, h3, h5⟩
theorem PL.rnextA (h : PL B bf b3 AF cF N outs q q2 a' a w) (hB : B ≤ w.heap.size) (hal : a.l.length ≤ 1000000) {x y : Int} {z : List Int} {K : Bool} {a2 : Aq} (e1 : hdA a = (x, y, z)) (e2 : okA a = K) (e3 : tlA a = a2) :
    Calls Try.prog 17 #[.pointer (some ⟨q2, 0, none⟩)] w fun e w' => ∃ A n c, e = .returned (.tuple #[.agg #[.int .u8 x, .int .u8 y, .slice A n c], .bool K]) ∧ z.length = n ∧ Own w' 0 5 1 A n c (u8s z) ∧ PL B bf b3 AF cF N outs q q2 a' a2 w' ∧ FrN w w' ∧ Below B w w' ∧ (∀ A n c xs, Own w 0 5 1 A n c xs → Own w' 0 5 1 A n c xs) := by
  obtain ⟨m, l, lost⟩ := a
  subst e2 e3
  cases l with
  | nil =>
    simp only [hdA, List.headD, Prod.mk.injEq] at e1
    obtain ⟨rfl, rfl, rfl⟩ := e1
    refine h.rnext0.mono ?_
    rintro e w' ⟨rfl, hb⟩
    exact ⟨none, 0, 0, rfl, rfl, Own.nil _ _ _ _, h.below hb, FrN.of_below hb, hb.mono hB, fun _ _ _ _ ho => ho.below hb⟩
  | cons k l =>
    simp only [hdA, List.headD] at e1
    subst e1
    obtain ⟨hc, r, r2, hw⟩ := id h
    obtain ⟨cs, hcs⟩ := hw.rk.cs
    have hk2 := hc.k2
    refine (h.rnext (by simp at hal; omega)).mono ?_
    rintro e w' ⟨A, n, c, rfl, h1, h2, h3, h4, h5⟩
    exact ⟨A, n, c, rfl, h1, h2, h3, h4, h5.below (fun i _ hi => by omega) hB, fun _ _ _ _ ho => ho.chg h5 (fun g hg e => ho.ne_blk hg hcs (by decide) e)⟩
end
theorem calls_named {P : Program} {f : Nat} {args : Array Value} {w : World} {R : Ending → World → Prop} (h : ∀ W, W = w → Calls P f args W R) : Calls P f args w R := h w rfl
theorem blk3 {w W : World} {c1 c2 c3 : Array Value} {t1 t2 t3 : TypeId} (h : W = ((w.alloc (.cells c1 t1)).alloc (.cells c2 t2)).alloc (.cells c3 t3)) : Blk W (w.heap.size + 1) t2 c2 ∧ Blk W (w.heap.size + 1 + 1) t3 c3 ∧ Below w.heap.size w W := by
  subst h
  have h1 := (Blk.new (w.alloc (.cells c1 t1)) t2 c2).alloc (.cells c3 t3)
  have h2 := Blk.new ((w.alloc (.cells c1 t1)).alloc (.cells c2 t2)) t3 c3
  simp only [World.size_alloc] at h1 h2
  exact ⟨h1, h2, (bl2 w _ _).alloc (by simp; omega) _⟩
set_option maxRecDepth 100000 in
set_option maxHeartbeats 4000000 in
theorem plays_no (most : Int) (v : Value) (w : World) (h : most < 1 ∨ 64 < most) :
    Calls Try.prog 6 #[.int .i64 most, v] w fun e w' => e = .returned (.bool true) ∧ Below w.heap.size w w' := by
  have C := Lib.hid (fun W => new_no most W h)
  have C2 := Lib.hid (fun W => rnew_no most W h)
  clear h
  go_enter Try.func6, Try.ntmps6
  go_wp2_with fail
  refine (shown_any _).mono ?_
  rintro e w1 ⟨rfl, b1⟩
  go_wp2_with fail
  refine (C.out _).mono ?_
  rintro e w' ⟨rfl, rfl⟩
  go_wp2_with fail
  refine (C2.out _).mono ?_
  rintro e w' ⟨rfl, rfl⟩
  go_wp2_with fail
  go_ret
  exact ⟨rfl, b1⟩
set_option maxRecDepth 100000 in
set_option maxHeartbeats 8000000 in
theorem plays_yes (most : Int) (A : Option Addr) (n c : Nat) (l : List Ac) (w : World) (hm1 : 1 ≤ most) (hm2 : most ≤ 64) (hx : l.length = n) (hl : n ≤ maxLen) (hr : Rd w w.heap.size A (cellsA l)) (hin : ∀ a ∈ l, AcIn w w.heap.size a) :
    Calls Try.prog 6 #[.int .i64 most, .slice A n c] w fun e w' => e = .returned (.bool true) ∧ Below w.heap.size w w' := by
  have C := Lib.hid (fun W => new_QX most W hm1 hm2)
  have C2 := Lib.hid (fun W => new_RK most W hm1 hm2)
  go_enter Try.func6, Try.ntmps6
  go_wp2_with fail
  refine (shown_any _).mono ?_
  rintro e w1 ⟨rfl, b1⟩
  have z1 := b1.size
  go_wp2_with fail
  refine (C.out _).mono ?_
  rintro e w2 ⟨q, rfl, hq, Q2, b2⟩
  have b2' := b1.trans (b2.mono z1)
  have z2 := b2.size
  go_wp2_with fail
  refine (C2.out _).mono ?_
  rintro e w2b ⟨q2, rfl, hq2, K2, b2b⟩
  have b2c := b2'.trans (b2b.mono (by omega))
  have z2b := b2b.size
  have hqlt := Q2.lt.1
  have hq2lt := K2.lt.1
  have F := Lib.hid (few_any A n c l w2b w.heap.size (by omega) hx hl ((hr.below b2c).more (by omega)) (fun a ha => by
    obtain ⟨a1, a2, a3, a4, a5, a6, a7, a8⟩ := hin a ha
    exact ⟨a1, a2, a3, a4, a5, a6, (a7.below b2c).more (by omega), fun t ht => by
      obtain ⟨p1, p2, p3, p4, p5, p6, p7, p8, p9⟩ := a8 t ht
      exact ⟨p1, p2, p3, p4, p5, p6, p7, p8, p9.below b2c⟩⟩))
  go_wp2_with fail
  refine F.out.mono ?_
  rintro e w3 ⟨AF, cF, outs, rfl, h60, hoF, hF, b3⟩
  have b3' := b2c.trans (b3.mono (by omega))
  have z3 := b3.size
  obtain ⟨N, hN⟩ : ∃ N, outs.length = N := ⟨_, rfl⟩
  rw [hN] at hoF h60
  have HP : PL w.heap.size w2b.heap.size w3.heap.size AF cF N outs q q2 ⟨most, [], [false, false, false, false]⟩ ⟨most, [], [false, false, false, false]⟩ w3 := by
    refine ⟨⟨hN, fun o ho g hg => ?_, fun g hg => ?_, by omega, by omega, by omega, by omega, by omega, by omega⟩, none, none, (Q2.below b2b).below b3, K2.below b3, hoF, hF, (fun g hg => by cases hg), (fun g hg => by cases hg), (fun g hg => by cases hg), Nat.le_refl _⟩
    · have := (hF o ho).2.2.2.2.2.2.1.lt hg
      omega
    · have := hoF.lt hg
      omega
  have HN := Lib.hid hN
  clear F C C2 Q2 K2 hF hoF
  go_wp2_with fail
  clear hN
  go_loopw [43] (fun i wr => ∃ (k : Nat) (a : Aq), k ≤ N ∧ i = .int .i64 k ∧ a.most = most ∧ a.l.length ≤ most ∧ PL w.heap.size w2b.heap.size w3.heap.size AF cF N outs q q2 a a wr ∧ Below w.heap.size w wr) (fun i _ => N - (intOf i).toNat)
  case atStart => exact ⟨0, _, Nat.zero_le _, rfl, rfl, by simp; omega, HP, b3'⟩
  case round =>
    obtain ⟨k, a, hk, rfl, ham, hal, hQ, hbr⟩ := hrel
    have hzr := hbr.size
    clear HP b1 b2 b2' b2b b2c b3 b3'
    by_cases hlt : k < N
    · have hlt' : (k : Int) < N := by omega
      obtain ⟨o, ho⟩ : ∃ o, outs[k]? = some o := ⟨_, List.getElem?_eq_getElem (by rw [HN.out]; exact hlt)⟩
      have hmem := List.mem_of_getElem? ho
      obtain ⟨hPc, r, r2, hPw⟩ := id hQ
      have AFo := hPw.few o hmem
      have hne : cellsA outs ≠ [] := by intro h; have h2 := cellsA_len outs; rw [h, HN.out] at h2; simp at h2; omega
      obtain ⟨b, ofs, ea, -, hc⟩ := hPw.own.rd hne
      obtain ⟨g0, g1, g2⟩ := cellsA_get outs k o ho
      have r0 := hc _ _ g0
      have r1 := hc _ _ g1
      have r2' := hc _ _ g2
      rw [← Nat.add_assoc] at r1 r2'
      have hsz := hPw.sz
      clear hc g0 g1 g2 ho hPw hPc
      obtain ⟨ok, ol, oA, on, oc, oits⟩ := o
      dsimp only at r0 r1 r2'
      have hk0 : 0 ≤ ok := AFo.1
      have hk1 : ok < 256 := AFo.2.1
      have hon : on ≤ 6 := AFo.2.2.2.2.2.1
      have hlen : (oits.map It.key).length = on := by rw [List.length_map]; exact AFo.2.2.2.2.1
      have hal1 : a.l.length ≤ 1000000 := by omega
      clear AFo
      subst ea
      go_upto_region 13 with fail
      refine wp_named fun W1 hW => ?_
      obtain ⟨B48, hbW⟩ := blk1 hW
      clear hW
      have hzW := hbW.size
      have hQ1 := hQ.below hbW
      have hS : SS w.heap.size w wr.heap.size #[.int .u8 ok, .int .i64 ol, .slice oA on oc] W1 := ⟨B48, hbr.trans (hbW.mono hzr)⟩
      have bc := B48.cell
      have bf := B48.frozen
      have FIN : Hid (∀ (W : World) (a2 : Aq) (i : Value), PL w.heap.size w2b.heap.size w3.heap.size (some ⟨b, ofs, none⟩) cF N outs q q2 a2 a2 W → Below w.heap.size w W → a2.most = most → (a2.l.length : Int) ≤ most → i = .int .i64 ((k + 1 : Nat) : Int) → ∃ (k' : Nat) (a : Aq), k' ≤ N ∧ i = .int .i64 k' ∧ a.most = most ∧ (a.l.length : Int) ≤ most ∧ PL w.heap.size w2b.heap.size w3.heap.size (some ⟨b, ofs, none⟩) cF N outs q q2 a a W ∧ Below w.heap.size w W) := Lib.hid (fun W a2 i x1 x2 x3 x4 x5 => ⟨k + 1, a2, by omega, x5, x3, x4, x1, x2⟩)
      clear hQ r0 r1 r2' hne
      have AN := apQ_len a ol (oits.map It.key)
      have EF := apOk_fits a ol (oits.map It.key)
      have P := Lib.hid (fun (a1 : Aq) (w' : World) (h : PL w.heap.size w2b.heap.size w3.heap.size (some ⟨b, ofs, none⟩) cF N outs q q2 a a1 w') => h.put hmem hal1)
      have R := Lib.hid (fun (a1 : Aq) (w' : World) (h : PL w.heap.size w2b.heap.size w3.heap.size (some ⟨b, ofs, none⟩) cF N outs q q2 a1 a w') => h.rput hmem hal1)
      dsimp only at P R
      obtain ⟨f, hf⟩ : ∃ f, apOk a ol (oits.map It.key) = f := ⟨_, rfl⟩
      obtain ⟨a2, ha2⟩ : ∃ a2, apQ a ol (oits.map It.key) = a2 := ⟨_, rfl⟩
      rw [hf] at P R AN EF
      rw [ha2] at P R AN
      rw [hlen] at AN EF
      have hm2 : a2.most = most := by rw [AN.2]; exact ham
      have hl2 : (a2.l.length : Int) ≤ most := by
        rw [AN.1]
        split
        · next h => have := EF h; omega
        · exact hal
      clear AN EF hf ha2 hlen
      have hff : (f != f) = false := by simp
      by_cases h4 : ok % 8 < 4
      · have c0 : W1.cell? ⟨wr.heap.size, 0, none⟩ = some (.int .u8 ok) := (bc 0).trans rfl
        have RL : ∀ w', SS w.heap.size w wr.heap.size #[.int .u8 ok, .int .i64 ol, .slice oA on oc] w' → ∀ i, w'.cell? ⟨wr.heap.size, i, none⟩ = #[Value.int .u8 ok, .int .i64 ol, .slice oA on oc][i]? := fun w' h => h.1.cell
        go_upto_region 14 with fail
        go_region_held (fun w' => SS w.heap.size w wr.heap.size #[.int .u8 ok, .int .i64 ol, .slice oA on oc] w') (first | exact hS | exact SS.drew (by assumption) | exact SS.step (SS.step hS.drew hFr5 hb5) hFr6 hb6 | exact SS.step hS.drew hFr5 hb5 | (trace_state; fail))
          (first
            | (go_at_call 12; (with_reducible refine (P.out _ _ (by first | assumption | exact PL.below hQ1 (Below.refl _ _).drew)).mono ?_); rintro e w5 ⟨rfl, hP5, hFr5, hb5⟩)
            | (go_at_call 16; (with_reducible refine (R.out _ _ (by first | assumption | exact PL.below hQ1 (Below.refl _ _).drew)).mono ?_); rintro e w6 ⟨rfl, hP6, hFr6, hb6⟩))
        have hSE : Below w.heap.size w w6 := (SS.step (SS.step hS.drew hFr5 hb5) hFr6 hb6).2
        obtain ⟨A6, c6, q6⟩ := hP6.cell
        have L := Lib.hid fun nq => (hP6.below (bel_drewN (Below.refl _ _) nq)).len
        go_wp2_with fail
        go_quiet ((go_at_call 13; exact Calls.quiet_of_same ((L.out _).mono (by rintro e w' ⟨rfl, rfl⟩; exact ⟨rfl, rfl⟩))))
        go_wp2_with fail
        go_roundw
        case rel => exact FIN.out _ _ _ (hP6.below (bel_drewN (Below.refl _ _) nq)) (hSE.trans (bel_drewN (Below.refl _ _) nq)) hm2 hl2 (by go_num)
        case measure => simp [intOf]; omega
      · by_cases h7 : ok % 8 < 7
        · have c0 : W1.cell? ⟨wr.heap.size, 0, none⟩ = some (.int .u8 ok) := (bc 0).trans rfl
          clear P R hff hl2 hm2
          obtain ⟨x, y, z, e1⟩ : ∃ x y z, hdA a = (x, y, z) := ⟨_, _, _, rfl⟩
          obtain ⟨K, e2⟩ : ∃ K, okA a = K := ⟨_, rfl⟩
          obtain ⟨a3, e3⟩ : ∃ a3, tlA a = a3 := ⟨_, rfl⟩
          have hm3 : a3.most = most := by rw [← e3, (tlA_le a).2]; exact ham
          have hl3 : (a3.l.length : Int) ≤ most := by have := (tlA_le a).1; rw [e3] at this; omega
          have N1 := Lib.hid (hQ1.nextA (by omega) hal1 e1 e2 e3)
          have N2 := Lib.hid (fun a' (w' : World) (h : PL w.heap.size w2b.heap.size w3.heap.size (some ⟨b, ofs, none⟩) cF N outs q q2 a' a w') hB => h.rnextA hB hal1 e1 e2 e3)
          have hKK : (K != K) = false := by simp
          have hS2 := hS.2
          clear e1 e2 e3 hS bc bf B48 hQ1 hbW
          go_wp2_with fail
          refine N1.out.mono ?_
          rintro e w5 ⟨A5, n5, c5, rfl, hn5, ho5, hP5, hb5⟩
          have hz5 := hb5.size
          go_wp2_with fail
          refine (N2.out _ _ (hP5.below (bl1 w5 _)) (by simp; omega)).mono ?_
          rintro e w6 ⟨A6, n6, c6, rfl, hn6, ho6, hP6, hF6, hb6, hO6⟩
          have hz6 := hb6.size
          have BX : Blk w6 w5.heap.size 31 #[.int .u8 x, .int .u8 y, .slice A5 n5 c5] := hF6 _ _ _ (Blk.new _ _ _) (by decide) (by decide)
          have hoX := hO6 _ _ _ _ (ho5.alloc (.cells #[.int .u8 x, .int .u8 y, .slice A5 n5 c5] 31))
          have bx1 := fun o => (BX.alloc o).cell
          have bx2 := fun o o' => ((BX.alloc o).alloc o').cell
          have bx3 := BX.lt
          clear N1 N2 hF6 hO6
          obtain rfl : n5 = n6 := by omega
          go_wp2_with fail
          refine calls_named fun W2 hW2 => ?_
          obtain ⟨BA, BB, hbW2⟩ := blk3 hW2
          have hzW2 := hbW2.size
          have SM := Lib.hid (same_one (c1 := 1) (c2 := 1) (xs := z) (w := W2) BA.rd BB.rd hn5 (hoX.below hbW2).rd (ho6.below hbW2).rd)
          have hSE : Below w.heap.size w W2 := ((hS2.trans hb5).trans (((bl1 w5 _).mono (by omega)).trans hb6)).trans (hbW2.mono (by simp at hz6; omega))
          have hPE := hP6.below hbW2
          clear hW2 bx1 bx2 BX hP6 hP5
          refine SM.out.mono ?_
          rintro e w7 ⟨rfl, hb7⟩
          have hPF := hPE.below hb7
          have hSF : Below w.heap.size w w7 := hSE.trans (hb7.mono hSE.size)
          obtain ⟨A6, c6, q6⟩ := hPF.cell
          have L := Lib.hid fun nq => (hPF.below (bel_drewN (Below.refl _ _) nq)).len
          go_wp2_with fail
          go_quiet ((go_at_call 13; exact Calls.quiet_of_same ((L.out _).mono (by rintro e w' ⟨rfl, rfl⟩; exact ⟨rfl, rfl⟩))))
          go_wp2_with fail
          go_roundw
          case rel => exact FIN.out _ _ _ (hPF.below (bel_drewN (Below.refl _ _) nq)) (hSF.trans (bel_drewN (Below.refl _ _) nq)) hm3 hl3 (by go_num)
          case measure => simp [intOf]; omega
        · have c0 : W1.cell? ⟨wr.heap.size, 0, none⟩ = some (.int .u8 ok) := (bc 0).trans rfl
          clear P R hff hl2 hm2
          have C1 := Lib.hid hQ1.clear
          have hS2 := hS.2
          rw [ham] at C1
          clear hS bc bf B48 hQ1 hbW
          go_wp2_with fail
          refine C1.out.mono ?_
          rintro e w5 ⟨rfl, hP5, -, hb5⟩
          have C2 := Lib.hid hP5.rclear
          rw [ham] at C2
          go_wp2_with fail
          refine C2.out.mono ?_
          rintro e w6 ⟨rfl, hP6, -, hb6⟩
          have hSF : Below w.heap.size w w6 := (hS2.trans hb5).trans hb6
          clear C1 C2 hP5
          obtain ⟨A6, c6, q6⟩ := hP6.cell
          have L := Lib.hid fun nq => (hP6.below (bel_drewN (Below.refl _ _) nq)).len
          go_wp2_with fail
          go_quiet ((go_at_call 13; exact Calls.quiet_of_same ((L.out _).mono (by rintro e w' ⟨rfl, rfl⟩; exact ⟨rfl, rfl⟩))))
          go_wp2_with fail
          go_roundw
          case rel => exact FIN.out _ _ _ (hP6.below (bel_drewN (Below.refl _ _) nq)) (hSF.trans (bel_drewN (Below.refl _ _) nq)) rfl (by simp; omega) (by go_num)
          case measure => simp [intOf]; omega
    · obtain rfl : k = N := by omega
      go_wp2_with fail
      go_ret
      exact ⟨rfl, hbr⟩
end Go.Proofs.Ytchneedpgpocnaa
