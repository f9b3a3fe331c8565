/- The program's lock: a seed is drawn. -/
import Derived.Test.YteecgdbicokgoaaL1
namespace Go.Proofs.Yteecgdbicokgoaa
open Go.RowKit
set_option linter.unusedVariables false
set_option linter.unusedSimpArgs false
set_option maxRecDepth 100000
set_option maxHeartbeats 2000000 in
theorem draws_bad (l : Addr) (r : Int) (A : Option Addr) (n c : Nat) (w : World) (h0 : 0 ≤ r) (h1 : r < 256) (h : isRes r = false ∨ n < 1 ∨ 20 < n) :
    Calls Try.prog 125 #[.pointer (some l), .int .u8 r, .slice A n c] w fun e w' => e = .returned (.int .i64 1) ∧ w = w' := by
  obtain ⟨p, hp⟩ : ∃ p, bits .and .u8 r 13 = p := ⟨_, rfl⟩
  by_cases e1 : p = r
  · subst e1
    by_cases e2 : p = 0
    · subst e2
      clear h
      go_enter Try.func125, Try.ntmps125
      go_wp2_with fail
      go_ret
      exact ⟨rfl, rfl⟩
    · have e2' : (p == 0) = false := by simpa using e2
      have e3 : 1 ≤ p := by omega
      obtain ⟨q, hq⟩ : ∃ q, bits .and .u8 p (p - 1) = q := ⟨_, rfl⟩
      by_cases e4 : q = 0
      · subst e4
        have hn : n < 1 ∨ 20 < n := by
          rcases h with h | h
          · rcases res_no p h0 h1 h with h | h | h
            · exact absurd hp h
            · exact absurd h e2
            · exact absurd hq h
          · exact h
        clear h
        rcases hn with hn | hn
        · obtain rfl : n = 0 := by omega
          go_enter Try.func125, Try.ntmps125
          go_wp2_with fail
          go_ret
          exact ⟨rfl, rfl⟩
        · have hn1 : (1 : Int) ≤ n := by omega
          have hn2 : (20 : Int) < n := by omega
          go_enter Try.func125, Try.ntmps125
          go_wp2_with fail
          go_ret
          exact ⟨rfl, rfl⟩
      · have e4' : (q != 0) = true := by simpa using e4
        have e4'' : (q == 0) = false := by simpa using e4
        clear h
        go_enter Try.func125, Try.ntmps125
        go_wp2_with fail
        go_ret
        exact ⟨rfl, rfl⟩
  · have e1' : (p != r) = true := by simpa using e1
    have e1'' : (p == r) = false := by simpa using e1
    clear h
    go_enter Try.func125, Try.ntmps125
    go_wp2_with fail
    go_ret
    exact ⟨rfl, rfl⟩
theorem keyL_drop0 (s : List Int) (r : Int) : (keyL s r).drop ([] : List Int).length = keyL s r := rfl
set_option maxHeartbeats 2000000 in
theorem draws_free {w : World} {B l : Nat} {Φ : Nat → Prop} {a : LX} (h : LAt w B Φ l a) (r : Int) (A : Option Addr) (n c : Nat) (hr : isRes r = true) (hn1 : 1 ≤ n) (hn2 : n ≤ 20) (hz : bits .and .u8 a.shut r = 0) :
    Calls Try.prog 125 #[.pointer (some ⟨l, 0, none⟩), .int .u8 r, .slice A n c] w fun e w' => e = .returned (.int .i64 0) ∧ LAt w' B Φ l { a with out := none } ∧ ChT B [109, 221] w w' := by
  obtain ⟨r1, r2, r3, r4, r5⟩ := res_yes r hr
  obtain ⟨h1, h2, p, h3, -⟩ := h
  have c1 : w.cell? ⟨l, 1, none⟩ = some (.int .u8 a.shut) := (h3.cell 1).trans rfl
  have c2 : w.cell? ⟨l, 2, none⟩ = some (.pointer p) := (h3.cell 2).trans rfl
  have cf := h3.frozen
  have HB := Lib.hid (h3.set_ 2 (.pointer none))
  have HC := Lib.hid ((ChT.refl B [109, 221] w).set_ (o := 2) h3 (by simp) h1 (.pointer none))
  have hn1' : (1 : Int) ≤ n := by omega
  have hn2' : (n : Int) ≤ 20 := by omega
  go_enter Try.func125, Try.ntmps125
  go_wp2_with fail
  go_ret
  exact ⟨rfl, ⟨h1, ⟨h2.a0, h2.a1, h2.s0, h2.s1, fun d h => by cases h⟩, none, HB.out, rfl⟩, HC.out⟩
set_option maxHeartbeats 2000000 in
theorem draws_ok {w : World} {B l : Nat} {Φ : Nat → Prop} {a : LX} (h : LAt w B Φ l a) (hB : B ≤ w.heap.size) (r : Int) (A : Option Addr) (n c : Nat) (xs : List Int) (hr : isRes r = true) (hx : xs.length = n) (hn1 : 1 ≤ n) (hn2 : n ≤ 20) (hz : bits .and .u8 a.shut r ≠ 0) (hb : By B 5 w A (u8s xs)) (hu : by8 xs) :
    Calls Try.prog 125 #[.pointer (some ⟨l, 0, none⟩), .int .u8 r, .slice A n c] w fun e w' => e = .returned (.int .i64 0) ∧ LAt w' B (fun i => Φ i ∨ (w.heap.size ≤ i ∧ i < w'.heap.size)) l { a with out := some ⟨xs, r, 0, []⟩ } ∧ ChT B [109, 221] w w' := by
  obtain ⟨r1, r2, r3, r4, r5⟩ := res_yes r hr
  obtain ⟨h1, h2, p, h3, -⟩ := h
  have c1 : w.cell? ⟨l, 1, none⟩ = some (.int .u8 a.shut) := (h3.cell 1).trans rfl
  have c2 : w.cell? ⟨l, 2, none⟩ = some (.pointer p) := (h3.cell 2).trans rfl
  have cf := h3.frozen
  have b1 := h3.set_ 2 (.pointer none)
  have hc1 := (ChT.refl B [109, 221] w).set_ (o := 2) h3 (by simp) h1 (.pointer none)
  have hb1 := hb.chT hc1 (by decide)
  have hn1' : (1 : Int) ≤ n := by omega
  have hn2' : (n : Int) ≤ 20 := by omega
  have hA : A ≠ none := fun e => by
    obtain ⟨b, o, e2, -⟩ := hb (by intro h; have : xs = [] := by simpa using h
                                   subst this; simp at hx; omega)
    rw [e] at e2; cases e2
  obtain ⟨x, hx2⟩ : ∃ x, bits .and .u8 a.shut r = x := ⟨_, rfl⟩
  have e1 : (x != 0) = true := by rw [← hx2]; simpa using hz
  have e2 : (x == 0) = false := by rw [← hx2]; simpa using hz
  have hs1 := hc1.size
  have K := Lib.hid (key_any A n c xs r _ hx hb1.rd (by omega) (by omega) (by omega))
  have HB1 := Lib.hid b1
  have HX := Lib.hid hx
  clear b1 hz hx
  go_enter Try.func125, Try.ntmps125
  go_wp2_with fail
  refine K.out.mono ?_
  rintro e w2 ⟨A3, c3, rfl, ho3, hb2⟩
  have B2 := HB1.out.below hb2
  have hs2 := hb2.size
  have CL := Lib.hid (clone_any A n c xs w2 HX.out (hb1.below hb2).rd (fun e => absurd e hA) (by omega))
  go_wp2_with fail
  refine CL.out.mono ?_
  rintro e w3 ⟨A1, c1', rfl, ho1, hb3⟩
  have B3 := B2.below hb3
  have hs3 := hb3.size
  have cl : w3.cell? ⟨l, 2, none⟩ = some (.pointer none) := (B3.cell 2).trans rfl
  have cfl := B3.frozen
  have hl3 := B3.lt
  have cl' : ∀ o, (w3.alloc o).cell? ⟨l, 2, none⟩ = some (.pointer none) := fun o => ((B3.alloc o).cell 2).trans rfl
  have hset : ChT B [109, 221] w3 (w3.setCell ⟨l, 2, none⟩ (.pointer (some ⟨w3.heap.size, 0, none⟩))) := (ChT.refl _ _ _).set_ (o := 2) B3 (by simp) h1 _
  have HC5 := Lib.hid ((((hc1.grow hb2).grow hb3).trans hset).alloc (.cells #[.int .u8 r, .slice A1 n c1', .slice A3 n c3, .slice A3 n c3, .bool false] 221))
  have HB5 := Lib.hid ((B3.set_ 2 (.pointer (some ⟨w3.heap.size, 0, none⟩))).alloc (.cells #[.int .u8 r, .slice A1 n c1', .slice A3 n c3, .slice A3 n c3, .bool false] 221))
  have ht5 := Blk.new (w3.setCell ⟨l, 2, none⟩ (.pointer (some ⟨w3.heap.size, 0, none⟩))) 221 #[.int .u8 r, .slice A1 n c1', .slice A3 n c3, .slice A3 n c3, .bool false]
  rw [World.size_setCell] at ht5
  have HT5 := Lib.hid ht5
  have HO1 := Lib.hid ((ho1.chT hset (by decide)).alloc (.cells #[.int .u8 r, .slice A1 n c1', .slice A3 n c3, .slice A3 n c3, .bool false] 221))
  have HO3 := Lib.hid (((ho3.below hb3).chT hset (by decide)).alloc (.cells #[.int .u8 r, .slice A1 n c1', .slice A3 n c3, .slice A3 n c3, .bool false] 221))
  clear hset ht5
  go_wp2_with fail
  go_ret
  refine ⟨rfl, ⟨h1, ⟨h2.a0, h2.a1, h2.s0, h2.s1, fun d hd => ?_⟩, _, HB5.out, w3.heap.size, rfl, A1, c1', A3, n, c3, A3, c3, by omega, ?_, ?_, ?_, fun i hi => .inr ?_, fun i hi => .inr ?_⟩, HC5.out⟩
  · injection hd with hd
    subst hd
    exact ⟨by rw [HX.out]; exact hn1, by rw [HX.out]; exact hn2, Nat.zero_le _, by rw [HX.out]; exact hn1, hr, hu, fun x hx => by cases hx⟩
  · have := HT5.out
    show Blk _ _ 221 #[.int .u8 r, .slice A1 (xs.length - 0) c1', .slice A3 n c3, .slice A3 (xs.length - 0) c3, .bool (wrongD ⟨xs, r, 0, []⟩)]
    rw [Nat.sub_zero, HX.out, show wrongD ⟨xs, r, 0, []⟩ = false by simp [wrongD]]
    exact this
  · show Own _ 0 5 1 A1 (xs.length - 0) c1' (u8s (xs.drop 0))
    rw [Nat.sub_zero, HX.out, List.drop_zero]
    exact HO1.out.more (Nat.zero_le _)
  · show Own _ 0 5 1 A3 (xs.length - 0) c3 (u8s ((keyL xs r).drop 0))
    rw [Nat.sub_zero, HX.out, List.drop_zero]
    exact HO3.out.more (Nat.zero_le _)
  · have := HO1.out.lt hi
    exact ⟨by omega, this.2⟩
  · have := HO3.out.lt hi
    exact ⟨by omega, this.2⟩
end Go.Proofs.Yteecgdbicokgoaa
