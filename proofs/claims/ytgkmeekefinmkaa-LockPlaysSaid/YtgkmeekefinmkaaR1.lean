/- The reference's Seed. -/
import Derived.Test.YtgkmeekefinmkaaR0
import Derived.Deep.QuietTactic
import Derived.BigQuiet
import Derived.Deep.RegionLaw
import Derived.Deep.RegionHeldLaw
namespace Go.Proofs.Ytgkmeekefinmkaa
open Go.RowKit
set_option linter.unusedVariables false
set_option linter.unusedSimpArgs false
theorem fr5 (W : World) : Own (W.alloc (.cells #[] 5)) W.heap.size 5 1 (some ⟨W.heap.size, 0, none⟩) 0 0 [] := Own.made (e := 5) (size := 1) W (Nat.le_refl _) #[] 0 0 (by decide) (by decide) rfl
def RSeedP (w : World) (B q : Nat) (x : LX × Int × List Int × Int) (e : Ending) (w' : World) : Prop := ∃ A m c, e = .returned (.tuple #[.int .i64 x.2.1, .slice A m c, .int .i64 x.2.2.2]) ∧ x.2.2.1.length = m ∧ Own w' w.heap.size 5 1 A m c (u8s x.2.2.1) ∧ RAt w' B q x.1 ∧ ChT B [41] w w'
theorem rseed_two {w : World} {B q : Nat} {a : LX} (h : RAt w B q a) (m res : Int) (v : Value) (hm : 1 < m) :
    Calls Try.prog 16 #[.pointer (some ⟨q, 0, none⟩), .int .u8 m, .int .u8 res, v] w (RSeedP w B q (a, 0, [], 1)) := by
  have e0 : (m == 0) = false := beq_eq_false_iff_ne.2 (by omega)
  have e1 : (m == 1) = false := beq_eq_false_iff_ne.2 (by omega)
  go_enter Try.func16, Try.ntmps16
  go_wp2_with fail
  go_ret3
  exact ⟨none, 0, 0, rfl, rfl, Own.nil _ _ _ _, h, ChT.refl _ _ _⟩
set_option maxRecDepth 100000 in
set_option maxHeartbeats 4000000 in
theorem rseed_bad {w : World} {B q : Nat} {a : LX} (h : RAt w B q a) (res : Int) (A : Option Addr) (n c : Nat) (hbad : isRes res = false ∨ n < 1 ∨ 20 < n) :
    Calls Try.prog 16 #[.pointer (some ⟨q, 0, none⟩), .int .u8 0, .int .u8 res, .slice A n c] w (RSeedP w B q (a, 0, [], 1)) := by
  by_cases hr : isRes res = true
  · have hn : n < 1 ∨ 20 < n := by
      rcases hbad with hb | hb
      · rw [hr] at hb
        exact Bool.noConfusion hb
      · exact hb
    clear hbad
    rcases hn with hn | hn
    case' inl =>
      obtain rfl : n = 0 := by omega
    case' inr =>
      have hn1 : (1 : Int) ≤ n := by omega
      have hn2 : (20 : Int) < n := by omega
    all_goals
      rcases (isRes_iff res).1 hr with rfl | rfl | rfl
      all_goals
        go_enter Try.func16, Try.ntmps16
        go_wp2_with fail
        go_ret3
        exact ⟨none, 0, 0, rfl, rfl, Own.nil _ _ _ _, h, ChT.refl _ _ _⟩
  · have h3 : res ≠ 1 ∧ res ≠ 4 ∧ res ≠ 8 := by
      exact ⟨fun e => hr ((isRes_iff res).2 (.inl e)), fun e => hr ((isRes_iff res).2 (.inr (.inl e))), fun e => hr ((isRes_iff res).2 (.inr (.inr e)))⟩
    obtain ⟨n1, n2, n3⟩ := h3
    have f1 : (res != 1) = true := by simpa using n1
    have f2 : (res != 4) = true := by simpa using n2
    have f3 : (res != 8) = true := by simpa using n3
    have g1 : (res == 1) = false := by simpa using n1
    have g2 : (res == 4) = false := by simpa using n2
    have g3 : (res == 8) = false := by simpa using n3
    clear hbad hr n1 n2 n3
    go_enter Try.func16, Try.ntmps16
    go_wp2_with fail
    go_ret3
    exact ⟨none, 0, 0, rfl, rfl, Own.nil _ _ _ _, h, ChT.refl _ _ _⟩
set_option maxRecDepth 100000 in
set_option maxHeartbeats 4000000 in
theorem rseed_free {w : World} {B q : Nat} {a : LX} (h : RAt w B q a) (res : Int) (A : Option Addr) (n c : Nat) (hr : isRes res = true) (hn1 : 1 ≤ n) (hn2 : n ≤ 20) (hz : bits .and .u8 a.shut res = 0) :
    Calls Try.prog 16 #[.pointer (some ⟨q, 0, none⟩), .int .u8 0, .int .u8 res, .slice A n c] w (RSeedP w B q ({ a with out := none }, 0, [], 0)) := by
  have hn1' : (1 : Int) ≤ n := by omega
  have hn2' : (n : Int) ≤ 20 := by omega
  have F := Lib.hid (rforget_any h)
  rcases (isRes_iff res).1 hr with rfl | rfl | rfl
  all_goals
    go_enter Try.func16, Try.ntmps16
    go_wp2_with fail
    refine F.out.mono ?_
    rintro e w1 ⟨rfl, hL, hc⟩
    obtain ⟨v2, v3, v4, v5, hb⟩ := hL.six
    have c1 : w1.cell? ⟨q, 1, none⟩ = some (.int .u8 a.shut) := (hb.cell 1).trans rfl
    go_wp2_with fail
    go_ret3
    exact ⟨none, 0, 0, rfl, rfl, Own.nil _ _ _ _, hL, hc⟩
set_option maxRecDepth 100000 in
set_option maxHeartbeats 4000000 in
theorem rseed_one0 {w : World} {B q : Nat} {a : LX} (h : RAt w B q a) (ho : a.out = none) (res : Int) (v : Value) :
    Calls Try.prog 16 #[.pointer (some ⟨q, 0, none⟩), .int .u8 1, .int .u8 res, v] w (RSeedP w B q (a, 0, [], 90)) := by
  have h3 := h.2.2
  rw [ho] at h3
  have hB : Blk w q 41 #[.int .u8 a.all, .int .u8 a.shut, .slice none 0 0, .int .u8 0, .int .i64 0, .slice none 0 0] := h3
  have c2 : w.cell? ⟨q, 2, none⟩ = some (.slice none 0 0) := (hB.cell 2).trans rfl
  have he := fun w => Lib.run_eql_slice_nil (P := Try.prog) w 22 5 none 0 0 0 0 Try.underlying22
  clear ho h3 hB
  go_enter Try.func16, Try.ntmps16
  go_wp2_with fail
  go_quiet (fail)
  go_wp2_with fail
  go_ret3
  exact ⟨none, 0, 0, rfl, rfl, Own.nil _ _ _ _, h.below (bel_drewN (Below.refl _ _) _), (ChT.refl _ _ _).drewN _⟩
set_option maxRecDepth 100000 in
set_option maxHeartbeats 4000000 in
theorem rseed_one1 {w : World} {B q : Nat} {a : LX} (h : RAt w B q a) (d : Sd) (ho : a.out = some d) (ht : d.told = d.s.length) (res : Int) (v : Value) :
    Calls Try.prog 16 #[.pointer (some ⟨q, 0, none⟩), .int .u8 1, .int .u8 res, v] w (RSeedP w B q (a, 0, [], 90)) := by
  have h3 := h.2.2
  rw [ho] at h3
  obtain ⟨A1, c1, A3, c3, hB, ⟨⟨a1, rfl⟩, g3, g4⟩, g5⟩ := h3
  rw [ht] at hB
  have c2 : w.cell? ⟨q, 2, none⟩ = some (.slice (some a1) d.s.length c1) := (hB.cell 2).trans rfl
  have c4 : w.cell? ⟨q, 4, none⟩ = some (.int .i64 d.s.length) := (hB.cell 4).trans rfl
  have he := fun w => Lib.run_eql_slice_nil (P := Try.prog) w 22 5 (some a1) d.s.length c1 0 0 Try.underlying22
  clear ho hB g3 g4 g5 ht
  go_enter Try.func16, Try.ntmps16
  go_wp2_with fail
  go_quiet (fail)
  go_wp2_with fail
  go_ret3
  exact ⟨none, 0, 0, rfl, rfl, Own.nil _ _ _ _, h.below (bel_drewN (Below.refl _ _) _), (ChT.refl _ _ _).drewN _⟩
/-- What stands behind the reference's Seed, where it tells. -/
theorem RAt.tell {w w' : World} {B q : Nat} {a : LX} {d : Sd} (h : RAt w B q a) (ho : a.out = some d) (hb : Below w.heap.size w w') (m : Nat) (hm : m = (partD d).length) : RAt (w'.setCell ⟨q, 4, none⟩ (.int .i64 ((d.told + m : Nat) : Int))) B q { a with out := some (tellD d) } ∧ ChT B [41] w (w'.setCell ⟨q, 4, none⟩ (.int .i64 ((d.told + m : Nat) : Int))) := by
  have h' := h.below hb
  have h3 := h'.2.2
  rw [ho] at h3
  obtain ⟨A1, c1, A3, c3, hB, ⟨g1, g3, g4⟩, g5⟩ := h3
  have hs := (ChT.refl B [41] w').set_ (o := 4) hB (by simp) h.1 (.int .i64 ((d.told + m : Nat) : Int))
  have hok := h.2.1
  refine ⟨⟨h.1, ⟨hok.a0, hok.a1, hok.s0, hok.s1, fun e he => ?_⟩, A1, c1, A3, c3, ?_, ⟨g1, g3, g4.chT hs (by decide)⟩, g5.chT hs (by decide)⟩, (ChT.of_below hb _ _).trans hs⟩
  · injection he with he
    subst he
    exact tell_ok (hok.out d ho)
  · have := hB.set_ 4 (.int .i64 ((d.told + m : Nat) : Int))
    rw [hm] at this ⊢
    exact this
set_option maxRecDepth 100000 in
set_option maxHeartbeats 1500000 in
theorem rseed_one2 {w : World} {B q : Nat} {a : LX} (h : RAt w B q a) (d : Sd) (ho : a.out = some d) (ht : d.told ≠ d.s.length) (res : Int) (v : Value) :
    Calls Try.prog 16 #[.pointer (some ⟨q, 0, none⟩), .int .u8 1, .int .u8 res, v] w (RSeedP w B q ({ a with out := some (tellD d) }, ((d.s.length - d.told : Nat) : Int), partD d, 0)) := by
  have hok := h.2.1.out d ho
  have h3 := h.2.2
  rw [ho] at h3
  obtain ⟨A1, c1, A3, c3, hB, ⟨⟨a1, rfl⟩, g3, g4⟩, g5⟩ := h3
  have c2 : w.cell? ⟨q, 2, none⟩ = some (.slice (some a1) d.s.length c1) := (hB.cell 2).trans rfl
  have c4 : w.cell? ⟨q, 4, none⟩ = some (.int .i64 d.told) := (hB.cell 4).trans rfl
  have he := fun w => Lib.run_eql_slice_nil (P := Try.prog) w 22 5 (some a1) d.s.length c1 0 0 Try.underlying22
  have hkl := hok.t
  have h20 := hok.s2
  have hne : ((d.told : Int) == (d.s.length : Int)) = false := beq_eq_false_iff_ne.2 (by omega)
  obtain ⟨gg, oo, e1⟩ := g4.at_ (by have := hok.s1; omega)
  injection e1 with e1
  subst e1
  have hcap := g4.2.1
  have hcap2 := g4.2.2.1
  unfold maxLen at hcap2
  have hpl := partD_len d
  obtain ⟨N, hN⟩ : ∃ N, d.s.length = N := ⟨_, rfl⟩
  have HNn := Lib.hid hN
  obtain ⟨t, ht'⟩ : ∃ t, d.told = t := ⟨_, rfl⟩
  rw [hN] at c2 he hne hcap hkl h20 hpl
  rw [ht'] at c4 hne hkl hpl
  have hw := IntKind.i64.wrap
  have htN : t < N := by rw [← hN, ← ht']; omega
  obtain ⟨k, hk⟩ : ∃ k, N - t = k := ⟨_, rfl⟩
  have HDK : Hid (d.s.length - d.told = k) := Lib.hid (by rw [hN, ht']; exact hk)
  have hsub : IntKind.i64.wrap ((N : Int) - (t : Int)) = (k : Int) := by rw [IntKind.wrap_i64]; omega
  have hsub2 : (N : Int) - (t : Int) = (k : Int) := by omega
  have HR : Hid (Rd w w.heap.size (some ⟨gg, oo + t, none⟩) (u8s (partD d))) := by
    have := ((By.of_own (B := 0) (e := 5) g4).drop d.told).rd.take 6
    rw [← List.map_drop, ← List.map_take, ht'] at this
    exact Lib.hid (by unfold partD; rw [ht']; exact this)
  have HTL := Lib.hid fun w' hb m hm => RAt.tell (w' := w') h ho hb m hm
  rw [ht'] at HTL
  clear ho hB g3 g4 g5 ht hok
  go_enter Try.func16, Try.ntmps16
  go_wp2_with fail
  go_quiet (fail)
  have hbA := bel_drewN (Below.refl w.heap.size w) nq
  have c2 : (w.drewN nq).cell? ⟨q, 2, none⟩ = some (.slice (some ⟨gg, oo, none⟩) N c1) := c2
  have c4 : (w.drewN nq).cell? ⟨q, 4, none⟩ = some (.int .i64 t) := c4
  generalize w.drewN nq = wA at *
  go_wp2_with fail
  go_quiet (fail)
  have hbW : Below w.heap.size w (wA.drewN nq) := bel_drewN hbA _
  have c2 : (wA.drewN nq).cell? ⟨q, 2, none⟩ = some (.slice (some ⟨gg, oo, none⟩) N c1) := c2
  have c4 : (wA.drewN nq).cell? ⟨q, 4, none⟩ = some (.int .i64 t) := c4
  generalize wA.drewN nq = W at *
  have hqW : q < W.heap.size := World.block_lt_of_cell? W ⟨q, 2, none⟩ c2
  have qf : W.frozen? ⟨q, 4, none⟩ = false := by
    have := (h.below hbW).six
    obtain ⟨v2, v3, v4, v5, hb⟩ := this
    exact hb.frozen 4
  have R2 : ∀ w', Below W.heap.size W w' → w'.cell? ⟨q, 2, none⟩ = some (.slice (some ⟨gg, oo, none⟩) N c1) := fun w' hb => (hb.cell (p := ⟨q, 2, none⟩) hqW).trans c2
  have R4 : ∀ w', Below W.heap.size W w' → w'.cell? ⟨q, 4, none⟩ = some (.int .i64 t) := fun w' hb => (hb.cell (p := ⟨q, 4, none⟩) hqW).trans c4
  have RF : ∀ w', Below W.heap.size W w' → w'.frozen? ⟨q, 4, none⟩ = false := fun w' hb => (hb.frozen (p := ⟨q, 4, none⟩) hqW).trans qf
  have hrW := HR.out.below hbW
  have hzW := hbW.size
  have htc : (t : Int) < c1 := by omega
  have htc' : ¬ c1 = t := by omega
  have hcc : (N : Int) ≤ c1 := by omega
  clear he h
  obtain ⟨m, hm⟩ : ∃ m, (partD d).length = m := ⟨_, rfl⟩
  rw [hm] at hpl
  have HM := Lib.hid hm
  have HK := Lib.hid hk
  clear hm hsub hsub2
  rw [hk] at hpl
  by_cases h6 : k ≤ 6
  case' pos =>
    obtain rfl : k = m := by omega
    have h6I : (k : Int) ≤ 6 := by omega
    obtain ⟨S6, hS6⟩ : ∃ S6, t + k = S6 := ⟨_, rfl⟩
    have hS : IntKind.i64.wrap ((t : Int) + (k : Int)) = (S6 : Int) := by rw [IntKind.wrap_i64]; omega
  case' neg =>
    have h6' : (6 : Int) < k := by omega
    obtain rfl : m = 6 := by omega
    obtain ⟨S6, hS6⟩ : ∃ S6, t + 6 = S6 := ⟨_, rfl⟩
    have hS : IntKind.i64.wrap ((t : Int) + 6) = (S6 : Int) := by rw [IntKind.wrap_i64]; omega
  all_goals
    have hb1 : (S6 : Int) ≤ c1 := by omega
    have hb2 : t ≤ S6 := by omega
    have hb3 : (t : Int) ≤ S6 := by omega
    have HS6 := Lib.hid hS6
    have HLN : Hid ((u8s (partD d)).length = (S6 - t) * 1) := Lib.hid (by rw [List.length_map, HM.out]; omega)
    have HX1 : Hid (0 + (S6 - t) ≤ maxLen) := Lib.hid (by unfold maxLen; omega)
    have HX2 : Hid ((0 + (S6 - t)) * 1 ≤ 140737488355328) := Lib.hid (by omega)
    clear hpl hk hS6
    go_upto_region 16 with fail
    go_region_held_law (fun w' => Below W.heap.size W w') (first | exact Below.refl _ _ | exact (Below.refl _ _).drew | exact bl1 _ _ | exact bl1d _ _ | exact hb5 | (trace_state; fail))
      ((refine step_app _ rfl (.tmp 87) (.tmp 102) 22 rfl W.heap.size 5 (.int .u8 0) 1 1 Try.underlying22 info5 rfl (by decide) _ 0 0 [] rfl (fr5 W).drew W.heap.size (some ⟨gg, oo + t, none⟩) (S6 - t) (c1 - t) (u8s (partD d)) rfl HLN.out ((hrW.more hzW).below (bl1d _ _)) (u8s_one _) HX1.out HX2.out (bl1d _ _).size ?_; intro A5 c5 w5 ho5 hg5 hbk5; have hb5 : Below W.heap.size W w5 := bel_app (bl1d _ _) (fr5 W).drew (Nat.le_refl _) hg5))
    all_goals
      have q4 := R4 w5 hb5
      have qf5 := RF w5 hb5
      have hb5w := hbW.trans (hb5.mono hzW)
      have HT := Lib.hid (HTL.out w5 hb5w _ HM.out.symm)
      have HO := Lib.hid ho5
      clear HTL R2 R4 RF hrW HR ho5 hg5 hbk5
      go_wp2_with fail
      go_ret3
      have hT := HT.out
      have hO := HO.out
      rw [HS6.out] at hT
      simp only [Nat.zero_add, List.nil_append] at hO
      have hO2 := hO.chg ((Chg.refl (fun i => i = q) w5).at_ (q := q) (Eq.refl q) 4 (.int .i64 (S6 : Int))) (fun g hg e => by have := (hO.lt hg).1; omega)
      exact ⟨A5, S6 - t, c5, by rw [HDK.out]; rfl, by have h1 := HM.out; have h2 := HS6.out; show (partD d).length = S6 - t; omega, hO2.more hzW, hT.1, hT.2⟩
end Go.Proofs.Ytgkmeekefinmkaa
