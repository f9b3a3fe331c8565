/- slices.Chunk of bytes, by six and by seven: the iterator. -/
import Derived.RangeFuncNested
import Derived.RangeFuncBound
import Derived.RangeFuncCalls
import Derived.RangeFuncLeaves
import Derived.RangeFuncBox
import Derived.Shelf.Abstract
import Derived.Shelf.RegionOpen
import Derived.WalkKit
import Derived.OwnWalkIn
import Derived.TacticsInMore
import Derived.LoopNIn
import Derived.LoopIn
import Derived.Test.YteecgdbicokgoaaM0
namespace Go.Proofs.Yteecgdbicokgoaa
open Go.RowKit Go.Shelf
set_option linter.unusedVariables false
set_option linter.unusedSimpArgs false
set_option maxRecDepth 100000
attribute [local go_sem] Oper.semAt_some
/-- What the iterator wants of a round: its own two variables stay. -/
def KpB (a b : Nat) (W W' : World) : Prop := W'.heap[a]? = W.heap[a]? ∧ W'.heap[b]? = W.heap[b]?
theorem KpB.t {a b : Nat} {A B C : World} (h : KpB a b A B) (k : KpB a b B C) : KpB a b A C := ⟨k.1.trans h.1, k.2.trans h.2⟩
/-- How many parts. -/
def parN (z n : Nat) : Nat := (n + z - 1) / z
/-- The k-th part of n bytes: an index of which there is a part. -/
abbrev Pix (z n : Nat) := { i : Nat // z * i < n }
def pixL (z n : Nat) : Nat → List (Pix z n)
  | 0 => []
  | k + 1 => if h : z * k < n then pixL z n k ++ [⟨k, h⟩] else pixL z n k
theorem pixL_succ {z n k : Nat} (h : z * k < n) : pixL z n (k + 1) = pixL z n k ++ [⟨k, h⟩] := by rw [pixL, dif_pos h]
theorem pixL_len {z n : Nat} : ∀ k, (∀ j, j < k → z * j < n) → (pixL z n k).length = k
  | 0, _ => rfl
  | k + 1, h => by rw [pixL_succ (h k (by omega)), List.length_append, pixL_len k fun j hj => h j (by omega)]; rfl
/-- A part of the slice at (g, o). -/
def parV (g o z n : Nat) (i : Nat) : Value := .slice (some ⟨g, o + z * i, none⟩) (min z (n - z * i)) (min z (n - z * i))
set_option maxHeartbeats 4000000 in
theorem chunk1_in (F : Fence) (d : Nat) (h86 : F.fn 86) (hro : F.round = none) (hd : 1 ≤ d) (l Bs Bn g o c z n : Nat) (hz : z = 6 ∨ z = 7) (hn : n ≤ 1000) (hc : n ≤ c) (J Jx : List (Pix z n) → World → Prop) (hJd : ∀ s A, J s A → J s A.drew)
    (hY : ∀ pre (x : Pix z n) W, J pre W → pre.length < parN z n → YieldAt F (d - 1) Try.prog l #[parV g o z n x.1] W fun e W' =>
      (e = .returned (.bool true) ∧ J (pre ++ [x]) W' ∧ KpB Bs Bn W W') ∨ (e = .returned (.bool false) ∧ Jx (pre ++ [x]) W'))
    (W : World) (hBs : Blk W Bs 22 #[.slice (some ⟨g, o, none⟩) n c]) (hBn : Blk W Bn 3 #[.int .i64 z]) (h0 : J [] W) :
    CallsIn F d Try.prog 86 #[.func (.yield l) #[] #[], .pointer (some ⟨Bs, 0, none⟩), .pointer (some ⟨Bn, 0, none⟩)] W fun e W' => (∃ v, e = .returned v) ∧
      ((∃ ys, ys = pixL z n (parN z n) ∧ J ys W') ∨ (∃ pre : List (Pix z n), Jx pre W')) := by
  have hz6 : 6 ≤ z ∧ z ≤ 7 := by omega
  have hN1 : ∀ k, k < parN z n → z * k < n := fun k hk => by
    unfold parN at hk
    rcases hz with rfl | rfl <;> omega
  have hN2 : ∀ k, z * k < n → k < parN z n := fun k hk => by
    unfold parN
    rcases hz with rfl | rfl <;> omega
  refine callsIn_of_wp Try.func86 rfl h86 ?_ hro
  simp only [Try.ntmps86, List.size_toArray, List.length_cons, List.length_nil, Nat.reduceAdd, Nat.reduceSub, Array.replicate_succ, Array.replicate_zero, List.push_toArray, List.append_toArray, List.nil_append, List.cons_append]
  gi_wp2
  gi_loopw [4] (fun i wr => ∃ k : Nat, k ≤ parN z n ∧ i = .int .i64 ((z * k : Nat) : Int) ∧ J (pixL z n k) wr ∧ KpB Bs Bn W wr)
    (fun i _ => n + 7 - (intOf i).toNat)
  case atStart => exact ⟨0, Nat.zero_le _, by simp, h0, rfl, rfl⟩
  case round =>
    obtain ⟨k, hk, rfl, hJs, hnx⟩ := hrel
    have b1 : Blk wr Bs 22 #[.slice (some ⟨g, o, none⟩) n c] := hnx.1.trans hBs
    have b2 : Blk wr Bn 3 #[.int .i64 z] := hnx.2.trans hBn
    have c1 := b1.cell
    have c2 := b2.cell
    by_cases hlt : z * k < n
    · obtain ⟨fn, tmps, assign, body, hy, hR⟩ := hY _ ⟨k, hlt⟩ wr.drew (hJd _ _ hJs) (by rw [pixL_len k fun j hj => hN1 j (by omega)]; exact hN2 k hlt)
      obtain ⟨q, hq⟩ : ∃ q, z * k = q := ⟨_, rfl⟩
      have hlI : (q : Int) < n := by omega
      obtain ⟨r, hr⟩ : ∃ r, min z (n - q) = r := ⟨_, rfl⟩
      unfold parV at hy
      simp only [hq, hr] at hy
      have HR := Lib.hid hR
      have hw1 : IntKind.i64.wrap ((q : Int) + r) = ((q + r : Nat) : Int) := by rw [IntWalk.i64_in _ (by omega)]; omega
      have hqr : q + r ≤ n ∧ q ≤ q + r ∧ q + r ≤ c ∧ q ≤ n := by omega
      have hqq : q + r - q = r := by omega
      have hcase : (z ≤ n - q ∧ z = r ∧ (z : Int) ≤ ((n - q : Nat) : Int)) ∨ (n - q < z ∧ n - q = r ∧ ((n - q : Nat) : Int) < z) := by omega
      rw [hq]
      have HNX := Lib.hid hnx
      clear hR hJs hnx b1 b2 hr
      rcases hcase with ⟨h1, rfl, h3⟩ | ⟨h1, rfl, h3⟩
      all_goals
        gi_wp2
        gi_region
        all_goals (try gi_wp2)
        all_goals
          refine HR.out.mono ?_
          rintro e W3 (⟨rfl, hJ3, hk3⟩ | ⟨rfl, hJx3⟩)
          · have b2' : Blk W3 Bn 3 #[.int .i64 z] := hk3.2.trans (HNX.out.2.trans hBn)
            have c2' := b2'.cell
            have hkn : KpB Bs Bn W W3 := HNX.out.t (KpB.t ⟨rfl, rfl⟩ hk3)
            have hq1 : IntKind.i64.wrap ((q : Int) + z) = ((z * (k + 1) : Nat) : Int) := by rw [IntWalk.i64_in _ (by omega), Nat.mul_succ, hq]; omega
            have HJ3 := Lib.hid hJ3
            have HKN := Lib.hid hkn
            clear hJ3 hk3 hkn
            gi_wp2
            go_roundw
            case rel => exact ⟨k + 1, by have := hN2 k hlt; omega, by first | rfl | (rw [Nat.mul_succ, hq]; simp), by rw [pixL_succ hlt]; exact HJ3.out, HKN.out⟩
            case measure =>
              have hqz : (z : Int) * ((k : Int) + 1) = (q : Int) + z := by rw [← hq, Int.natCast_mul, Int.mul_add, Int.mul_one]
              simp [intOf]
              omega
          · have HJX := Lib.hid hJx3
            clear hJx3
            gi_wp2
            refine bodyPost_ret (results_none rfl _ _ _) rfl ?_
            exact ⟨⟨_, rfl⟩, .inr ⟨_, HJX.out⟩⟩
    · obtain rfl : k = parN z n := by
        rcases (by omega : k = parN z n ∨ k < parN z n) with h | h
        · exact h
        · exact absurd (hN1 k h) hlt
      obtain ⟨q, hq⟩ : ∃ q, z * parN z n = q := ⟨_, rfl⟩
      rw [hq] at hlt ⊢
      have hge : ¬ ((q : Int) < n) := by omega
      have HJS := Lib.hid hJs
      clear hJs hnx b1 b2 hlt hq
      gi_wp2
      go_end0
      first
        | exact ⟨⟨_, rfl⟩, .inl ⟨_, rfl, HJS.out⟩⟩
        | exact ⟨⟨_, rfl⟩, .inl HJS.out⟩
        | exact .inl HJS.out
set_option maxHeartbeats 1000000 in
theorem chunk_in (F : Fence) (d : Nat) (h58 : F.fn 58) (hro : F.round = none) (A : Option Addr) (n c : Nat) (z : Nat) (hz : z = 6 ∨ z = 7) (w : World) :
    CallsIn F d Try.prog 58 #[.slice A n c, .int .i64 z] w fun e w' => e = .returned (.func (.func 86) #[] #[.pointer (some ⟨w.heap.size, 0, none⟩), .pointer (some ⟨w.heap.size + 1, 0, none⟩)]) ∧ w' = (w.alloc (.cells #[.slice A n c] 22)).alloc (.cells #[.int .i64 z] 3) := by
  have hmf : ∀ (fn : Fn) (first cap : Array Value) (w : World), (Instr.makeFunc fn first cap).run Try.prog w = .ok (.func fn first cap) w := fun _ _ _ _ => rfl
  have hz1 : (1 : Int) ≤ z := by omega
  obtain ⟨K1, K2, hb⟩ := blk2 (W := (w.alloc (.cells #[.slice A n c] 22)).alloc (.cells #[.int .i64 z] 3)) rfl
  have c2 := K2.cell
  clear K1 K2 hb hz
  refine callsIn_of_wp Try.func58 rfl h58 ?_ hro
  simp only [Try.ntmps58, List.size_toArray, List.length_cons, List.length_nil, Nat.reduceAdd, Nat.reduceSub, Array.replicate_succ, Array.replicate_zero, List.push_toArray, List.append_toArray, List.nil_append, List.cons_append]
  gi_wp2
  go_ret
  exact ⟨rfl, rfl⟩
end Go.Proofs.Yteecgdbicokgoaa
