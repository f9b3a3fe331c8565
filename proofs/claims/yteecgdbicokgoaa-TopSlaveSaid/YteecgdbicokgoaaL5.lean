/- The program's lock: a part of a key is taken. -/
import Derived.Test.YteecgdbicokgoaaL4
namespace Go.Proofs.Yteecgdbicokgoaa
open Go.RowKit
set_option linter.unusedVariables false
set_option linter.unusedSimpArgs false
set_option maxRecDepth 100000
theorem UnP.drew {w : World} {B l : Nat} {Φ : Nat → Prop} {x : LX × Int} {e : Ending} {w' : World} (h : UnP w B Φ l x e w') : UnP w B Φ l x e w'.drew := ⟨h.1, h.2.1.below ((Below.refl _ _).drew), h.2.2.grow ((Below.refl _ _).drew)⟩
set_option maxRecDepth 100000 in
set_option maxHeartbeats 4000000 in
theorem unlock_yes {w : World} {B l : Nat} {Φ : Nat → Prop} {a : LX} (h : LAt w B Φ l a) (hB : B ≤ w.heap.size) (d : Sd) (ho : a.out = some d) (A : Option Addr) (n c : Nat) (xs : List Int) (hx : xs.length = n) (hr : Rd w w.heap.size A (u8s xs)) (hu : by8 xs)
    (htd : d.told = d.s.length) (hn : (n : Int) = min ((d.s.length - d.came.length : Nat) : Int) 6) :
    Calls Try.prog 116 #[.pointer (some ⟨l, 0, none⟩), .int .i64 ((d.s.length - d.came.length : Nat) : Int), .slice A n c] w (UnP w B Φ l (if (d.came ++ xs).length < d.s.length then ({ a with out := some { d with came := d.came ++ xs } }, 0) else if d.came ++ xs = keyL d.s d.of then (⟨a.all, a.shut - bits .and .u8 a.shut d.of, none⟩, 0) else ({ a with out := none }, 91))) := by
  obtain ⟨h1, h2, p, hl, hm⟩ := h
  rw [ho] at hm
  obtain ⟨g, rfl, A1, c1, A2, n2, c2, A3, c3, hg, hb, h4, h5, hf1, hf3⟩ := hm
  have hok := h2.out d ho
  obtain ⟨s1, s2, s3, s4, s5, s6, s7⟩ := hok
  have hws := wrong_step d xs
  rw [hx] at hws
  have hkl := keyL_len d.s d.of
  obtain ⟨t3, ht3⟩ : ∃ t3, d.s.length - d.came.length = t3 := ⟨_, rfl⟩
  rw [ht3] at hn h5 hb ⊢
  rw [show d.s.length - d.told = 0 by omega] at hb h4
  have hbd := Lib.hid (keyL_by d.s d.of s6)
  obtain ⟨q, hq⟩ : ∃ q, decide (xs = ((keyL d.s d.of).drop d.came.length).take n) = q := ⟨_, rfl⟩
  rw [hq] at hws
  have h30 : 0 < t3 := by omega
  have hn0 : 0 < n := by omega
  have hnt : n ≤ t3 := by omega
  have hn6 : n ≤ 6 := by omega
  obtain ⟨ga, oa, rfl⟩ := h5.at_ h30
  have hcap := h5.2.1
  have hcap2 := h5.2.2.1
  unfold maxLen at hcap2
  have cl2 : w.cell? ⟨l, 2, none⟩ = some (.pointer (some ⟨g, 0, none⟩)) := (hl.cell 2).trans rfl
  have cl1 : w.cell? ⟨l, 1, none⟩ = some (.int .u8 a.shut) := (hl.cell 1).trans rfl
  have cg0 : w.cell? ⟨g, 0, none⟩ = some (.int .u8 d.of) := (hb.cell 0).trans rfl
  have cg1 : w.cell? ⟨g, 1, none⟩ = some (.slice A1 0 c1) := (hb.cell 1).trans rfl
  have cg3 : w.cell? ⟨g, 3, none⟩ = some (.slice (some ⟨ga, oa, none⟩) t3 c3) := (hb.cell 3).trans rfl
  have cg4 : w.cell? ⟨g, 4, none⟩ = some (.bool (wrongD d)) := (hb.cell 4).trans rfl
  have cgf := hb.frozen
  have clf := hl.frozen
  have hgl : g ≠ l := fun e => by subst e; have := blk_ty hl hb; cases this
  have hlg : l ≠ g := fun e => hgl e.symm
  have EQ : Hid (Calls Try.prog 126 #[.slice A n c, .slice (some ⟨ga, oa, none⟩) n c3] w fun e w' => e = .returned (.bool q) ∧ w = w') := by
    have := equal_any A (some ⟨ga, oa, none⟩) n c n c3 xs (((keyL d.s d.of).drop d.came.length).take n) w hx (by rw [List.length_take, List.length_drop, hkl]; omega) hr (h5.rd.take' n) hu (fun x hx => hbd.out x (List.mem_of_mem_drop (List.mem_of_mem_take hx)))
    rw [hq] at this
    exact Lib.hid this
  -- the worlds behind
  obtain ⟨nw, hnw⟩ : ∃ nw, (wrongD d || !q) = nw := ⟨_, rfl⟩
  rw [hnw] at hws
  obtain ⟨A', hA'⟩ : ∃ A' : Option Addr, A' = if c3 = n then some ⟨ga, oa, none⟩ else some ⟨ga, oa + n, none⟩ := ⟨_, rfl⟩
  have b1 := hb.set_ 4 (.bool nw)
  have b2 := b1.set_ 3 (.slice A' (t3 - n) (c3 - n))
  have hc1 := (ChT.refl B [109, 221] w).set_ (o := 4) hb (by simp) hg (.bool nw)
  have hc2 := hc1.set_ (o := 3) b1 (by simp) hg (.slice A' (t3 - n) (c3 - n))
  have hl2 := (hl.far (p := ⟨g, 4, none⟩) hlg (.bool nw)).far (p := ⟨g, 3, none⟩) hlg (.slice A' (t3 - n) (c3 - n))
  have h52 := (h5.cut (k := n) hnt (by decide)).chT hc2 (by decide)
  have h42 := h4.chT hc2 (by decide)
  rw [Nat.mul_one] at h52
  have hA2 : (if c3 = n then some (⟨ga, oa, none⟩ : Addr) else (some (⟨ga, oa, none⟩ : Addr)).map (·.add n)) = A' := by
    rw [hA']
    split
    · rfl
    · simp [Addr.add]
      omega
  rw [hA2] at h52
  have hl3 := hl2.set_ 2 (.pointer none)
  have hc3 := hc2.set_ (o := 2) hl2 (by simp) h1 (.pointer none)
  have hl4 := hl3.set_ 1 (.int .u8 (bits .andNot .u8 a.shut d.of))
  have hc4 := hc3.set_ (o := 1) hl3 (by simp) h1 (.int .u8 (bits .andNot .u8 a.shut d.of))
  obtain ⟨k1, k2, k3, k4⟩ := clr_res a.shut d.of h2.s0 h2.s1 s5
  have hlen : (d.came ++ xs).length = d.came.length + n := by rw [List.length_append, hx]
  have FIN : Hid (if n < t3 then UnP w B Φ l (if (d.came ++ xs).length < d.s.length then ({ a with out := some { d with came := d.came ++ xs } }, 0) else if d.came ++ xs = keyL d.s d.of then (⟨a.all, a.shut - bits .and .u8 a.shut d.of, none⟩, 0) else ({ a with out := none }, 91)) (.returned (.int .i64 0)) ((w.setCell ⟨g, 4, none⟩ (.bool nw)).setCell ⟨g, 3, none⟩ (.slice A' (t3 - n) (c3 - n)))
      else if nw = true then UnP w B Φ l (if (d.came ++ xs).length < d.s.length then ({ a with out := some { d with came := d.came ++ xs } }, 0) else if d.came ++ xs = keyL d.s d.of then (⟨a.all, a.shut - bits .and .u8 a.shut d.of, none⟩, 0) else ({ a with out := none }, 91)) (.returned (.int .i64 91)) (((w.setCell ⟨g, 4, none⟩ (.bool nw)).setCell ⟨g, 3, none⟩ (.slice A' (t3 - n) (c3 - n))).setCell ⟨l, 2, none⟩ (.pointer none))
      else ∀ k, UnP w B Φ l (if (d.came ++ xs).length < d.s.length then ({ a with out := some { d with came := d.came ++ xs } }, 0) else if d.came ++ xs = keyL d.s d.of then (⟨a.all, a.shut - bits .and .u8 a.shut d.of, none⟩, 0) else ({ a with out := none }, 91)) (.returned (.int .i64 0)) (((((w.setCell ⟨g, 4, none⟩ (.bool nw)).setCell ⟨g, 3, none⟩ (.slice A' (t3 - n) (c3 - n))).setCell ⟨l, 2, none⟩ (.pointer none)).drewN k).setCell ⟨l, 1, none⟩ (.int .u8 (bits .andNot .u8 a.shut d.of)))) := by
    refine Lib.hid ?_
    rw [hlen]
    split
    · rename_i hlt
      rw [if_pos (by omega)]
      refine ⟨rfl, ⟨h1, ⟨h2.a0, h2.a1, h2.s0, h2.s1, fun e he => ?_⟩, _, hl2, g, rfl, A1, c1, A2, n2, c2, A', c3 - n, hg, ?_, ?_, ?_, hf1, fun i hi => hf3 i ?_⟩, hc2⟩
      · injection he with he
        subst he
        exact ⟨s1, s2, s3, by show (d.came ++ xs).length < d.s.length; rw [hlen]; omega, s5, s6, fun x hx => (List.mem_append.1 hx).elim (s7 x) (hu x)⟩
      · show Blk _ g 221 #[.int .u8 d.of, .slice A1 (d.s.length - d.told) c1, .slice A2 n2 c2, .slice A' (d.s.length - (d.came ++ xs).length) (c3 - n), .bool (wrongD { d with came := d.came ++ xs })]
        rw [hws, hlen, show d.s.length - d.told = 0 by omega, show d.s.length - (d.came.length + n) = t3 - n by omega]
        exact b2
      · show Own _ 0 5 1 A1 (d.s.length - d.told) c1 (u8s (d.s.drop d.told))
        rw [show d.s.length - d.told = 0 by omega]
        exact h42
      · show Own _ 0 5 1 A' (d.s.length - (d.came ++ xs).length) (c3 - n) (u8s ((keyL d.s d.of).drop (d.came ++ xs).length))
        rw [hlen, show d.s.length - (d.came.length + n) = t3 - n by omega, ← List.drop_drop]
        have := h52
        rw [← List.map_drop] at this
        exact this
      · rw [hA'] at hi
        split at hi <;> exact hi
    · rename_i hlt
      rw [if_neg (show ¬ (d.came.length + n < d.s.length) by omega)]
      have hwe := wrong_end { d with came := d.came ++ xs } (by show (d.came ++ xs).length = (keyL d.s d.of).length; rw [hkl, hlen]; omega)
      rw [hws] at hwe
      dsimp only at hwe
      split
      · rename_i hn1
        rw [hn1] at hwe
        rw [if_neg (by intro e; rw [decide_eq_true e] at hwe; cases hwe)]
        refine ⟨rfl, ⟨h1, LX.ok_none h2, none, ?_, rfl⟩, ?_⟩
        · exact hl3
        · exact hc3
      · rename_i hn1
        have hn2 : nw = false := by simpa using hn1
        rw [hn2] at hwe
        rw [if_pos (by
          by_cases e : d.came ++ xs = keyL d.s d.of
          · exact e
          · rw [decide_eq_false e] at hwe; cases hwe)]
        intro k
        refine ⟨rfl, ⟨h1, ⟨h2.a0, h2.a1, k2, k3, fun d hd => by cases hd⟩, none, ?_, rfl⟩, ?_⟩
        · show Blk _ l 109 #[.int .u8 a.all, .int .u8 (a.shut - bits .and .u8 a.shut d.of), .pointer none]
          rw [← k1]
          exact (hl3.drewN k).set_ 1 _
        · exact (hc3.drewN k).set_ (o := 1) (hl3.drewN k) (by simp) h1 _
  clear hl4 hc4 hl3 hc3 h42 h52 hl2 hc2 hc1 b1 b2 hA2 k1 k2 k3 k4 hws hkl h4 h5 hb hl
  have hnI : (0 : Int) < n := by omega
  have hcI : (n : Int) ≤ c3 := by omega
  have htI : (n : Int) ≤ t3 := by omega
  have e0 : ((n : Int) == 0) = false := beq_eq_false_iff_ne.2 (by omega)
  clear hcap2 hbd h2 s1 s2 s3 s4 s5 s6 s7 htd ht3 hlen hx hr hu hq
  generalize hW : (if (d.came ++ xs).length < d.s.length then (({ a with out := some { d with came := d.came ++ xs } } : LX), (0 : Int)) else if d.came ++ xs = keyL d.s d.of then (⟨a.all, a.shut - bits .and .u8 a.shut d.of, none⟩, 0) else ({ a with out := none }, 91)) = X at *
  clear hW
  generalize wrongD d = b0 at *
  by_cases hlt : n < t3
  case' pos =>
    obtain rfl : n = 6 := by omega
    have h63 : (6 : Int) < t3 := by omega
    have hcn : c3 ≠ 6 := by omega
    rw [if_neg hcn] at hA'
    subst hA'
    rw [if_pos hlt] at FIN
    have hp : (0 : Int) < (t3 : Int) - 6 := by omega
  case' neg =>
    obtain rfl : n = t3 := by omega
    rw [if_neg hlt] at FIN
    by_cases hcn : c3 = n
    case' pos =>
      subst hcn
      rw [if_pos rfl] at hA'
      subst hA'
    case' neg =>
      rw [if_neg hcn] at hA'
      subst hA'
  all_goals
    clear hn
    cases b0
    case' false =>
      cases q
    all_goals
      simp only [Bool.false_or, Bool.true_or, Bool.not_true, Bool.not_false] at hnw
      subst hnw
      try simp only [Bool.false_eq_true, if_false, if_true, Nat.sub_self] at FIN
      go_enter Try.func116, Try.ntmps116
      go_wp2_with ((go_at_call 126); (with_reducible refine EQ.out.mono ?_); rintro e w' ⟨rfl, rfl⟩)
      first
        | (go_ret; exact FIN.out)
        | (go_region
           all_goals
             go_wp2_with fail
             go_ret
             exact UnP.drew (FIN.out 0))
end Go.Proofs.Yteecgdbicokgoaa
