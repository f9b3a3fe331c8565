/- TopSamples: memory without segments, an entry's bytes; a fresh queue, a fresh Fire. -/
import Derived.Test.YteecgdbicokgoaaM4
import Derived.Test.YteecgdbicokgoaaG0
import Derived.Lib.MinMax
namespace Go.Proofs.Yteecgdbicokgoaa
open Go.RowKit
set_option linter.unusedVariables false
set_option linter.unusedSimpArgs false
set_option maxRecDepth 100000
set_option maxHeartbeats 2000000 in
theorem new0_any (w : World) : Calls Try.prog 20 #[.agg #[.int .i64 64, .slice none 0 0, .slice none 0 0]] w fun e w' => ∃ m, e = .returned (.tuple #[.pointer (some ⟨m, 0, none⟩), .int .i64 0]) ∧ MAt w' w.heap.size w'.heap.size m ⟨zeros 64, none⟩ ∧ Below w.heap.size w w' := by
  have WN := Lib.hid within_any
  obtain ⟨Z64, hZ64⟩ : ∃ Z, (u8s (zeros 64)).toArray = Z := ⟨_, rfl⟩
  have mk64 : ∀ w, (Instr.makeSlice 22 (.int .i64 64) (.int .i64 64)).run Try.prog w = .ok (.slice (some ⟨w.heap.size, 0, none⟩) 64 64) (w.alloc (.cells Z64 5)) := fun w => by have := mkz 64 (by decide) w; rw [hZ64] at this; exact this
  have HZ64 := Lib.hid hZ64
  clear hZ64
  go_enter Try.func20, Try.ntmps20
  go_wp2_with (go_at_call 47; refine (WN.out _ _ _ _).mono ?_; rintro e w' ⟨rfl, rfl⟩)
  refine wp_named fun W hW => ?_
  obtain ⟨s, hs⟩ : ∃ s, w.heap.size = s := ⟨_, rfl⟩
  have F : Blk W s 57 #[.int .i64 64, .slice none 0 0, .slice none 0 0] ∧ Blk W (s + 1) 5 Z64 ∧ Blk W (s + 2) 125 #[.slice (some ⟨s + 1, 0, none⟩) 64 64, .slice none 0 0] ∧ Below w.heap.size w W ∧ W.heap.size = s + 3 := by
    have b1 := bl1 w (.cells #[.int .i64 64, .slice none 0 0, .slice none 0 0] 57)
    have k0 := Blk.new w 57 #[.int .i64 64, .slice none 0 0, .slice none 0 0]
    obtain ⟨w1, hw1⟩ : ∃ w1, w.alloc (.cells #[.int .i64 64, .slice none 0 0, .slice none 0 0] 57) = w1 := ⟨_, rfl⟩
    have z1 : w1.heap.size = s + 1 := by rw [← hw1, World.size_alloc, hs]
    rw [hw1] at b1 k0 hW
    have b2 := bl1 w1 (.cells Z64 5)
    have k1 := Blk.new w1 5 Z64
    obtain ⟨w2, hw2⟩ : ∃ w2, w1.alloc (.cells Z64 5) = w2 := ⟨_, rfl⟩
    have z2 : w2.heap.size = s + 2 := by rw [← hw2, World.size_alloc, z1]
    rw [hw2] at b2 k1 hW
    rw [z1] at k1
    rw [hs] at hW
    have b3 := bl1 w2 (.cells #[.slice (some ⟨s + 1, 0, none⟩) 64 64, .slice none 0 0] 125)
    have k2 := Blk.new w2 125 #[.slice (some ⟨s + 1, 0, none⟩) 64 64, .slice none 0 0]
    rw [z2] at k2
    rw [hs] at k0
    subst hW
    exact ⟨(k0.below b2).below b3, k1.below b3, k2, (b1.trans (b2.mono b1.size)).trans (b3.mono (b1.trans (b2.mono b1.size)).size), by rw [World.size_alloc, z2]⟩
  rw [hs]
  have HF := Lib.hid F
  have hP1 := F.1.cell
  clear hW F
  refine wp_loop_rounds 1 ?_
  rw [rounds_succ]
  go_wp2_with fail
  go_ret2
  obtain ⟨h1, h2, h3, h4, h5⟩ := HF.out
  refine ⟨s + 2, rfl, ⟨s + 1, none, 0, 0, ?_⟩, h4⟩
  refine ⟨⟨rfl, fun S hS => by cases hS⟩, Nat.le_refl _, by omega, h3, by omega, by rw [HZ64.out]; exact h2, rfl, rfl, rfl⟩
/-- What stands where an entry says; 0s, where nothing may be. -/
def enB (M : Mx) (e : En) : List Int := (readX M 1 e.area e.pl.toNat e.size.toNat).getD (zeros e.size.toNat)
theorem readX_len {M : Mx} {who area : Int} {pt n : Nat} {l : List Int} (h : readX M who area pt n = some l) : l.length = n := by
  obtain ⟨r, h1, h2, h3⟩ := readX_some h
  rw [h3, List.length_take, List.length_drop]
  omega
theorem enB_len (M : Mx) (e : En) : (enB M e).length = e.size.toNat := by
  unfold enB
  rcases h : readX M 1 e.area e.pl.toNat e.size.toNat with _ | l
  · simp [zeros]
  · exact readX_len h
theorem read_nil {w : World} {L T m : Nat} {M : Mx} (h : MAt w L T m M) {area : Int} {pt : Nat} {l : List Int} (hr : readX M 1 area pt 0 = some l) :
    Calls Try.prog 12 #[.pointer (some ⟨m, 0, none⟩), .int .u8 1, .int .u8 area, .int .u32 pt, .int .i64 0] w fun e w' => ∃ A c, e = .returned (.tuple #[.slice A 0 c, .int .i64 0]) ∧ Own w' w.heap.size 5 1 A 0 c (u8s l) ∧ Below w.heap.size w w' := by
  have hll : l = [] := List.eq_nil_of_length_eq_zero (readX_len hr)
  obtain ⟨k, hk, hf, hl⟩ := readX_some hr
  obtain ⟨g, hG, hC⟩ := part_yes h (.inl rfl) hk hf
  have PC := Lib.hid hC
  have CL := Lib.hid (fun o c => clone_any (some ⟨g, o, none⟩) 0 c [] w rfl Rd.nil (fun h => by cases h) (by decide))
  subst hll
  clear hC hG h hk hl hr
  go_enter Try.func12, Try.ntmps12
  go_wp2_with fail
  refine PC.out.mono ?_
  rintro e w' ⟨⟨o, rfl, ho⟩, rfl⟩
  have C1 := CL.out o ((rowL M k).length - pt)
  clear PC CL
  go_wp2_with fail
  refine C1.mono ?_
  rintro e w' ⟨A, c, rfl, hO, hb⟩
  go_wp2_with fail
  go_ret2
  exact ⟨A, c, rfl, hO, hb⟩
/-- Reading an entry: its bytes, or that nothing may be there. -/
theorem read_en {w : World} {L T m : Nat} {M : Mx} (h : MAt w L T m M) {e : En} (he : e.wf) {k : Nat} (hk : e.size.toNat = k) :
    Calls Try.prog 12 #[.pointer (some ⟨m, 0, none⟩), .int .u8 1, .int .u8 e.area, .int .u32 e.pl, .int .i64 k] w fun x w' => ∃ A c f n, x = .returned (.tuple #[.slice A n c, .int .i64 f]) ∧ Below w.heap.size w w' ∧ ((f = 0 ∧ n = k ∧ Own w' w.heap.size 5 1 A k c (u8s (enB M e))) ∨ (f = 80 ∧ enB M e = zeros k)) := by
  have hs := he.s1
  have hs0 := he.s0
  have hp : e.pl = (e.pl.toNat : Int) := by have := he.p0; omega
  have hp1 := he.p1
  rcases hr : readX M 1 e.area e.pl.toNat e.size.toNat with _ | l
  · have := read_no h (.inl rfl) ⟨he.a0, he.a1⟩ (pt := e.pl.toNat) (n := k) (by omega) (by omega) (by rw [← hk]; exact hr)
    rw [← hp] at this
    refine this.mono ?_
    rintro x w' ⟨rfl, hb⟩
    exact ⟨none, 0, 80, 0, rfl, hb, .inr ⟨rfl, by unfold enB; rw [hr, ← hk]; rfl⟩⟩
  · have hE : enB M e = l := by unfold enB; rw [hr]; rfl
    rw [hk] at hr
    rcases Nat.eq_zero_or_pos k with h0 | h0
    · subst h0
      have := read_nil h hr
      rw [← hp] at this
      refine this.mono ?_
      rintro x w' ⟨A, c, rfl, hO, hb⟩
      exact ⟨A, c, 0, 0, rfl, hb, .inl ⟨rfl, rfl, by rw [hE]; exact hO⟩⟩
    · have := read_yes h (.inl rfl) hr h0
      rw [← hp] at this
      refine this.mono ?_
      rintro x w' ⟨A, c, rfl, -, hO, hb⟩
      exact ⟨A, c, 0, k, rfl, hb, .inl ⟨rfl, rfl, by rw [hE]; exact hO⟩⟩
theorem qnew_any {n : Int} (h1 : 1 ≤ n) (h2 : n ≤ 64) (w : World) : Calls Try.prog 21 #[.int .i64 n] w fun e w' => e = .returned (.tuple #[.pointer (some ⟨w.heap.size, 0, none⟩), .int .i64 0]) ∧ w' = w.alloc (.cells #[.int .i64 n, .slice none 0 0, .bool false, .bool false, .bool false, .bool false] 127) := by
  have i1 : ¬ n < 1 := by omega
  have i2 : ¬ 64 < n := by omega
  go_enter Try.func21, Try.ntmps21
  go_wp2
  go_ret2
  exact ⟨rfl, rfl⟩
theorem fnew_any (w : World) : Calls Try.prog 22 #[] w fun e w' => e = .returned (.pointer (some ⟨w.heap.size, 0, none⟩)) ∧ w' = w.alloc (.cells #[.int .i64 0, .int .i64 0, .int .i64 0, .int .i64 0] 130) := by
  go_enter Try.func22, Try.ntmps22
  go_wp2
  go_ret
  exact ⟨rfl, rfl⟩
end Go.Proofs.Yteecgdbicokgoaa
