/- The reference's Seed, where a seed is drawn. -/
import Derived.Test.YtgkmeekefinmkaaR1
namespace Go.Proofs.Ytgkmeekefinmkaa
open Go.RowKit
set_option linter.unusedVariables false
set_option linter.unusedSimpArgs false
/-- The reference's lock, a seed just drawn. -/
theorem RAt.drawn {w' : World} {B q : Nat} {a : LX} (h1 : B ≤ q) (hok : a.ok) (n : Nat) (res : Int) (xs : List Int) (hx : xs.length = n) (hn1 : 1 ≤ n) (hn2 : n ≤ 20) (hr : isRes res = true) (hu : by8 xs) (A : Option Addr) (c : Nat)
    (hB : Blk w' q 41 #[.int .u8 a.all, .int .u8 a.shut, .slice A n c, .int .u8 res, .int .i64 0, .slice none 0 0]) (hh : Held w' A n c xs) :
    RAt w' B q { a with out := some ⟨xs, res, 0, []⟩ } := by
  subst hx
  exact ⟨h1, ⟨hok.a0, hok.a1, hok.s0, hok.s1, fun d hd => by injection hd with hd; subst hd; exact ⟨hn1, hn2, Nat.zero_le _, by simp; omega, hr, hu, fun x hx => by cases hx⟩⟩, A, c, none, 0, hB, hh, Own.nil _ _ _ _⟩
theorem RSeedP.pre {w w1 w' : World} {B q : Nat} {x : LX × Int × List Int × Int} {e : Ending} (hc : ChT B [41] w w1) (h : RSeedP w1 B q x e w') : RSeedP w B q x e w' := by
  obtain ⟨A, m, c, h1, h2, h3, h4, h5⟩ := h
  exact ⟨A, m, c, h1, h2, h3.more hc.size, h4, hc.trans h5⟩
set_option maxRecDepth 100000 in
set_option maxHeartbeats 8000000 in
theorem rseed_zero {w0 : World} {B q : Nat} {a0 : LX} (h0 : RAt w0 B q a0) (hB0 : B ≤ w0.heap.size) (res : Int) (A : Option Addr) (n c : Nat) (xs : List Int) (hx : xs.length = n) (hb : By B 5 w0 A (u8s xs)) (hu : by8 xs) (hr : isRes res = true) (hn1 : 1 ≤ n) (hn2 : n ≤ 20) (hz : bits .and .u8 a0.shut res ≠ 0)
    (d : Sd) (hd : d = ⟨xs, res, 0, []⟩) (a : LX) (ha : a = { a0 with out := some d }) :
    Calls Try.prog 16 #[.pointer (some ⟨q, 0, none⟩), .int .u8 0, .int .u8 res, .slice A n c] w0 (RSeedP w0 B q ({ a with out := some (tellD d) }, ((d.s.length - d.told : Nat) : Int), partD d, 0)) := by
  have hn1' : (1 : Int) ≤ n := by omega
  have hn2' : (n : Int) ≤ 20 := by omega
  have F := Lib.hid (rforget_any h0)
  have HQ := Lib.hid h0.1
  have HOK := Lib.hid h0.2.1
  have HRES := Lib.hid hr
  obtain ⟨sb, hsb⟩ : ∃ sb, bits .and .u8 a0.shut res = sb := ⟨_, rfl⟩
  have hsb0 : (sb == 0) = false := beq_eq_false_iff_ne.2 (by rw [← hsb]; exact hz)
  have HL : Hid ((u8s xs).length = n * 1) := Lib.hid (by simp [hx])
  have HX := Lib.hid hx
  have HD := Lib.hid hd
  have HA := Lib.hid ha
  clear h0 hr hz hx hd ha
  have hcases : (res != 1) = false ∨ ((res != 1) = true ∧ (res != 4) = false) ∨ ((res != 1) = true ∧ (res != 4) = true ∧ (res != 8) = false) := by
    rcases (isRes_iff res).1 HRES.out with e | e | e <;> subst e <;> decide
  rcases hcases with k1 | ⟨k1, k2⟩ | ⟨k1, k2, k3⟩
  all_goals
    go_enter Try.func16, Try.ntmps16
    go_wp2_with fail
    refine F.out.mono ?_
    rintro e w1 ⟨rfl, hL, hc⟩
    have hb1 := Lib.hid ((hb.chT hc (by decide)).rd)
    obtain ⟨v2, v3, v4, v5, hbk⟩ := hL.six
    have c1 : w1.cell? ⟨q, 1, none⟩ = some (.int .u8 a0.shut) := (hbk.cell 1).trans rfl
    have hL' : Blk w1 q 41 #[.int .u8 a0.all, .int .u8 a0.shut, .slice none 0 0, .int .u8 0, .int .i64 0, .slice none 0 0] := hL.2.2
    have HLB := Lib.hid hL'
    have HC := Lib.hid hc
    clear hL hbk hL' hb F hc
    go_upto_region 9 with fail
    go_upto_region 10 with ((refine wpList_app _ rfl (.tmp 47) (.tmp 48) 22 rfl w1.heap.size 5 (.int .u8 0) 1 1 Try.underlying22 info5 rfl (by decide) _ 0 0 [] rfl (fr5 w1) w1.heap.size A n c (u8s xs) rfl HL.out (hb1.out.below (bl1 _ _)) (u8s_one _) (by unfold maxLen; omega) (by omega) (by simp) ?_; intro A5 c5 w5 ho5 hg5 hbk5; have B5 := (HLB.out.alloc (.cells #[] 5)).grown hg5 (fun e => by simp [blkOf] at e; have := HLB.out.lt; omega); have b5c := B5.cell; have b5f := B5.frozen))
    have B6 := B5.set_ 2 (.slice A5 (0 + n) c5)
    have b6f := B6.frozen
    go_upto_region 14 with fail
    refine wp_named fun w hW1 => ?_
    have B7 := (B5.set_ 2 (.slice A5 n c5)).set_ 3 (.int .u8 (res))
    rw [← hW1] at B7
    simp only [Nat.zero_add, List.nil_append] at ho5
    have hch5 : ChT B [41] w1 w5 := ChT.of_below ((bl1 w1 (.cells #[] 5)).grown hg5 (by simp) (fun k hk => by simp [blkOf] at hk; omega)) _ _
    have hch6 := (hch5.set_ (o := 2) B5 (by simp) HQ.out (.slice A5 n c5)).set_ (o := 3) (B5.set_ 2 (.slice A5 n c5)) (by simp) HQ.out (.int .u8 (res))
    rw [← hW1] at hch6
    have HPRE := Lib.hid (HC.out.trans hch6)
    have ho7 : Own w 0 5 1 A5 n c5 (u8s xs) := by
      have x1 := (ho5.far (p := ⟨q, 2, none⟩) (fun e => own_blk_ne ho5 B5 (by decide) e.symm) (.slice A5 n c5))
      have x2 := x1.far (p := ⟨q, 3, none⟩) (fun e => own_blk_ne ho5 B5 (by decide) e.symm) (.int .u8 (res))
      rw [← hW1] at x2
      exact x2.more (Nat.zero_le _)
    have h : RAt w B q a := by
      rw [HA.out, HD.out]
      refine RAt.drawn HQ.out HOK.out n _ xs HX.out hn1 hn2 HRES.out hu A5 c5 B7 ⟨?_, HX.out, ho7⟩
      obtain ⟨g, o, e⟩ := ho5.at_ hn1
      exact ⟨_, e⟩
    have ho : a.out = some d := by rw [HA.out]
    have ht : d.told ≠ d.s.length := by rw [HD.out]; show (0 : Nat) ≠ xs.length; rw [HX.out]; omega
    clear B5 b5c b5f B6 b6f B7 hch5 hch6 ho5 hg5 hbk5 ho7 c1 hb1 hsb hsb0
    have hok := h.2.1.out d ho
    have h3 := h.2.2
    rw [ho] at h3
    obtain ⟨A1, c1, A3, c3, hB, ⟨⟨a1, rfl⟩, g3, g4⟩, g5⟩ := h3
    have c2 : w.cell? ⟨q, 2, none⟩ = some (.slice (some a1) d.s.length c1) := (hB.cell 2).trans rfl
    have c4 : w.cell? ⟨q, 4, none⟩ = some (.int .i64 d.told) := (hB.cell 4).trans rfl
    have he := fun w => Lib.run_eql_slice_nil (P := Try.prog) w 22 5 (some a1) d.s.length c1 0 0 Try.underlying22
    have hkl := hok.t
    have h20 := hok.s2
    have hne : ((d.told : Int) == (d.s.length : Int)) = false := beq_eq_false_iff_ne.2 (by omega)
    obtain ⟨gg, oo, e1⟩ := g4.at_ (by have := hok.s1; omega)
    injection e1 with e1
    subst e1
    have hcap := g4.2.1
    have hcap2 := g4.2.2.1
    unfold maxLen at hcap2
    have hpl := partD_len d
    obtain ⟨N, hN⟩ : ∃ N, d.s.length = N := ⟨_, rfl⟩
    have HNn := Lib.hid hN
    obtain ⟨t, ht'⟩ : ∃ t, d.told = t := ⟨_, rfl⟩
    rw [hN] at c2 he hne hcap hkl h20 hpl
    rw [ht'] at c4 hne hkl hpl
    have htN : t < N := by rw [← hN, ← ht']; omega
    obtain ⟨k, hk⟩ : ∃ k, N - t = k := ⟨_, rfl⟩
    have HDK : Hid (d.s.length - d.told = k) := Lib.hid (by rw [hN, ht']; exact hk)
    have hsub : IntKind.i64.wrap ((N : Int) - (t : Int)) = (k : Int) := by rw [IntKind.wrap_i64]; omega
    have hsub2 : (N : Int) - (t : Int) = (k : Int) := by omega
    have HR : Hid (Rd w w.heap.size (some ⟨gg, oo + t, none⟩) (u8s (partD d))) := by
      have := ((By.of_own (B := 0) (e := 5) g4).drop d.told).rd.take 6
      rw [← List.map_drop, ← List.map_take, ht'] at this
      exact Lib.hid (by unfold partD; rw [ht']; exact this)
    have HTL := Lib.hid fun w' hb m hm => RAt.tell (w' := w') h ho hb m hm
    rw [ht'] at HTL
    clear ho hB g3 g4 g5 ht hok
    clear hW1
    go_wp2_with fail
    go_quiet (fail)
    have hbW : Below w.heap.size w (w.drewN nq) := bel_drewN (Below.refl _ _) _
    have c2 : (w.drewN nq).cell? ⟨q, 2, none⟩ = some (.slice (some ⟨gg, oo, none⟩) N c1) := c2
    have c4 : (w.drewN nq).cell? ⟨q, 4, none⟩ = some (.int .i64 t) := c4
    generalize w.drewN nq = W at *
    have hqW : q < W.heap.size := World.block_lt_of_cell? W ⟨q, 2, none⟩ c2
    have qf : W.frozen? ⟨q, 4, none⟩ = false := by
      have := (h.below hbW).six
      obtain ⟨v2, v3, v4, v5, hb⟩ := this
      exact hb.frozen 4
    have R2 : ∀ w', Below W.heap.size W w' → w'.cell? ⟨q, 2, none⟩ = some (.slice (some ⟨gg, oo, none⟩) N c1) := fun w' hb => (hb.cell (p := ⟨q, 2, none⟩) hqW).trans c2
    have R4 : ∀ w', Below W.heap.size W w' → w'.cell? ⟨q, 4, none⟩ = some (.int .i64 t) := fun w' hb => (hb.cell (p := ⟨q, 4, none⟩) hqW).trans c4
    have RF : ∀ w', Below W.heap.size W w' → w'.frozen? ⟨q, 4, none⟩ = false := fun w' hb => (hb.frozen (p := ⟨q, 4, none⟩) hqW).trans qf
    have hrW := HR.out.below hbW
    have hzW := hbW.size
    have htc : (t : Int) < c1 := by omega
    have htc' : ¬ c1 = t := by omega
    have hcc : (N : Int) ≤ c1 := by omega
    clear he h
    obtain ⟨m, hm⟩ : ∃ m, (partD d).length = m := ⟨_, rfl⟩
    rw [hm] at hpl
    have HM := Lib.hid hm
    have HK := Lib.hid hk
    clear hm hsub hsub2
    rw [hk] at hpl
    by_cases h6 : k ≤ 6
    case' pos =>
      obtain rfl : k = m := by omega
      have h6I : (k : Int) ≤ 6 := by omega
      obtain ⟨S6, hS6⟩ : ∃ S6, t + k = S6 := ⟨_, rfl⟩
      have hS : IntKind.i64.wrap ((t : Int) + (k : Int)) = (S6 : Int) := by rw [IntKind.wrap_i64]; omega
    case' neg =>
      have h6' : (6 : Int) < k := by omega
      obtain rfl : m = 6 := by omega
      obtain ⟨S6, hS6⟩ : ∃ S6, t + 6 = S6 := ⟨_, rfl⟩
      have hS : IntKind.i64.wrap ((t : Int) + 6) = (S6 : Int) := by rw [IntKind.wrap_i64]; omega
    all_goals
      have hb1 : (S6 : Int) ≤ c1 := by omega
      have hb2 : t ≤ S6 := by omega
      have hb3 : (t : Int) ≤ S6 := by omega
      have HS6 := Lib.hid hS6
      have HLN : Hid ((u8s (partD d)).length = (S6 - t) * 1) := Lib.hid (by rw [List.length_map, HM.out]; omega)
      have HX1 : Hid (0 + (S6 - t) ≤ maxLen) := Lib.hid (by unfold maxLen; omega)
      have HX2 : Hid ((0 + (S6 - t)) * 1 ≤ 140737488355328) := Lib.hid (by omega)
      clear hpl hk hS6
      go_upto_region 16 with fail
      go_region_held_law (fun w' => Below W.heap.size W w') (first | exact Below.refl _ _ | exact (Below.refl _ _).drew | exact bl1 _ _ | exact bl1d _ _ | exact hb5 | (trace_state; fail))
        ((refine step_app _ rfl (.tmp 87) (.tmp 102) 22 rfl W.heap.size 5 (.int .u8 0) 1 1 Try.underlying22 info5 rfl (by decide) _ 0 0 [] rfl (fr5 W).drew W.heap.size (some ⟨gg, oo + t, none⟩) (S6 - t) (c1 - t) (u8s (partD d)) rfl HLN.out ((hrW.more hzW).below (bl1d _ _)) (u8s_one _) HX1.out HX2.out (bl1d _ _).size ?_; intro A5 c5 w5 ho5 hg5 hbk5; have hb5 : Below W.heap.size W w5 := bel_app (bl1d _ _) (fr5 W).drew (Nat.le_refl _) hg5))
      all_goals
        have q4 := R4 w5 hb5
        have qf5 := RF w5 hb5
        have hb5w := hbW.trans (hb5.mono hzW)
        have HT := Lib.hid (HTL.out w5 hb5w _ HM.out.symm)
        have HO := Lib.hid ho5
        clear HTL R2 R4 RF hrW HR ho5 hg5 hbk5
        go_wp2_with fail
        go_ret3
        have hT := HT.out
        have hO := HO.out
        rw [HS6.out] at hT
        simp only [Nat.zero_add, List.nil_append] at hO
        have hO2 := hO.chg ((Chg.refl (fun i => i = q) w5).at_ (q := q) (Eq.refl q) 4 (.int .i64 (S6 : Int))) (fun g hg e => by have := (hO.lt hg).1; omega)
        exact RSeedP.pre HPRE.out ⟨A5, S6 - t, c5, by rw [HDK.out]; rfl, by have h1 := HM.out; have h2 := HS6.out; show (partD d).length = S6 - t; omega, hO2.more hzW, hT.1, hT.2⟩
end Go.Proofs.Ytgkmeekefinmkaa
