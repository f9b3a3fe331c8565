import Derived.Test.YtegbffcimldjnaaShown
namespace Go.Proofs.Ytegbffcimldjnaa
open Go.RowKit
set_option linter.unusedVariables false
set_option linter.unusedSimpArgs false

theorem Fr.eqb_refl (f : Fr) : f.eqb f = true := by simp [Fr.eqb]
theorem few_bytes (A : Option Addr) (n c : Nat) (ys : List Int) (w : World) (hn : n ≤ c) (hl : n ≤ maxLen) (hA : A = none → n = 0 ∧ c = 0) (hy : ys.length = min n 20) :
    Calls Try.prog 11 #[.slice A n c] w fun e w' => e = .returned (.slice A ys.length c) ∧ w = w' := by
  rw [hy]; exact few_any A n c w hn hl hA

set_option maxHeartbeats 1000000 in
theorem makes_any (id : Int) (ext : Bool) (A : Option Addr) (n c : Nat) (xs : List Int) (w : World) (h0 : 0 ≤ id) (h1 : id < 4294967296) (hx : xs.length = n) (hb : Rd w w.heap.size A (u8s xs)) (hn : n ≤ c) (hl : n ≤ maxLen) (hA : A = none → n = 0 ∧ c = 0) :
    Calls Try.prog 3 #[.int .u32 id, .bool ext, .slice A n c] w fun e w' => e = .returned (.bool true) ∧ Below w.heap.size w w' := by
  have hf := few_bytes A n c (xs.take 20)
  have hy : (xs.take 20).length = min n 20 := by simp [hx, Nat.min_comm]
  have hb' : Rd w w.heap.size A (u8s (xs.take 20)) := by
    have := hb.take 20
    rwa [← List.map_take] at this
  have hl' : (xs.take 20).length ≤ maxLen := by rw [hy]; unfold maxLen; omega
  have HF := fun w => Lib.hid (hf w hn hl hA hy)
  have HX := Lib.hid hx
  clear hx hf hy
  generalize xs.take 20 = ys at *
  have h26 := eq26
  have hee := Fr.eqb_refl
  go_enter Try.func3, Try.ntmps3
  go_wp2_with fail
  refine (HF _).out.mono ?_
  rintro e w' ⟨rfl, rfl⟩
  go_wp2_with fail
  refine (make_any id ext A ys c _ h0 h1 hb' hl').mono ?_
  rintro e w1 ⟨rfl, hb1⟩
  go_wp2_with fail
  refine (HF _).out.mono ?_
  rintro e w' ⟨rfl, rfl⟩
  go_wp2_with fail
  refine (refmake_any id ext A ys c _ h0 h1 (((hb'.below hb1).more hb1.size).alloc (Nat.le_refl _) _ |>.more (by simp)) hl').mono ?_
  rintro e w2 ⟨rfl, hb2⟩
  have B1 := Blk.new_below hb2
  go_wp2_with fail
  refine (shown_any _).mono ?_
  rintro e w3 ⟨rfl, hb3⟩
  have c1 := ((B1.alloc _).below hb3).cell
  have c2 := (Blk.new_below hb3).cell
  go_wp2_with fail
  go_ret
  exact ⟨rfl, bel2 (bel2 hb1 (bel1 hb2)) (bel1 hb3)⟩
end Go.Proofs.Ytegbffcimldjnaa
