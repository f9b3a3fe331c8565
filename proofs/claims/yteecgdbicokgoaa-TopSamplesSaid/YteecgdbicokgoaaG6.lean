/- slices.Repeat at lists. -/
import Derived.Test.YteecgdbicokgoaaG4
import Derived.Test.YteecgdbicokgoaaCpy
import Derived.Test.YteecgdbicokgoaaConf
import Derived.Test.YteecgdbicokgoaaChain
import Derived.Test.YteecgdbicokgoaaG1
import Derived.Test.YteecgdbicokgoaaMak
import Derived.Deep.RegionLaw
namespace Go.Proofs.Yteecgdbicokgoaa
open Go.RowKit
set_option linter.unusedVariables false
set_option linter.unusedSimpArgs false
set_option maxRecDepth 100000
theorem mul64_any (n : Nat) (h : n ≤ 4) (w : World) : Calls Try.prog 135 #[.int .u64 1, .int .u64 n] w fun e w' => e = .returned (.tuple #[.int .u64 0, .int .u64 n]) ∧ w = w' := by
  rcases (by omega : n = 0 ∨ n = 1 ∨ n = 2 ∨ n = 3 ∨ n = 4) with rfl | rfl | rfl | rfl | rfl
  all_goals
    go_enter Try.func135, Try.ntmps135
    go_wp2
    go_ret2
    exact ⟨by first | rfl | (congr 1), rfl⟩
theorem mul_any (n : Nat) (h : n ≤ 4) (w : World) : Calls Try.prog 127 #[.int .u64 1, .int .u64 n] w fun e w' => e = .returned (.tuple #[.int .u64 0, .int .u64 n]) ∧ w = w' := by
  have M := Lib.hid (fun w => mul64_any n h w)
  go_enter Try.func127, Try.ntmps127
  go_wp2_with fail
  refine (M.out _).mono ?_
  rintro e w' ⟨rfl, rfl⟩
  go_wp2_with fail
  go_ret2
  exact ⟨rfl, rfl⟩
/-- A list, new. -/
abbrev l0 : Lc := ⟨none, 0, [], 0, false, 0, 1, 0, false, false⟩
abbrev z40 : Value := .agg #[.int .i64 0, .slice none 0 0, .bool false, .int .u8 0, .int .u8 0, .int .u8 0, .bool false, .bool false]
abbrev zc40 : List Value := [.int .i64 0, .slice none 0 0, .bool false, .int .u8 0, .int .u8 0, .int .u8 0, .bool false, .bool false]
/-- d new lists, then cells of 0. -/
def rowR (d r : Nat) : List Value := lcells (List.replicate d l0) ++ (List.replicate r zc40).flatten
theorem rowR_len (d r : Nat) : (rowR d r).length = (d + r) * 8 := by
  unfold rowR
  rw [List.length_append, lcells_len, List.length_replicate]
  simp only [List.length_flatten, List.map_replicate, List.sum_replicate_nat]
  simp
  omega
theorem rowR_zero (n : Nat) : (List.replicate n z40.cells.toList).flatten = rowR 0 n := rfl
theorem rowR_copy (d m r : Nat) (h : m ≤ d) (hr : m ≤ r) : (rowR d r).take (d * 8) ++ (rowR d r).take (m * 8) ++ (rowR d r).drop ((d + m) * 8) = rowR (d + m) (r - m) := by
  have e1 : (rowR d r).take (d * 8) = lcells (List.replicate d l0) := by
    unfold rowR
    rw [List.take_left' (by rw [lcells_len, List.length_replicate])]
  have e2 : (rowR d r).take (m * 8) = lcells (List.replicate m l0) := by
    rw [show m * 8 = min (m * 8) (d * 8) by omega, ← List.take_take, e1, lcells, ← flatC_take Lc.cs 8 m _ (fun _ _ => rfl), List.take_replicate, Nat.min_eq_left h]
  have e3 : (rowR d r).drop ((d + m) * 8) = (List.replicate (r - m) zc40).flatten := by
    unfold rowR
    rw [List.drop_append, List.drop_eq_nil_of_le (by rw [lcells_len, List.length_replicate]; omega), List.nil_append, lcells_len, List.length_replicate, show (d + m) * 8 - d * 8 = m * 8 by omega]
    have : (List.replicate r zc40) = List.replicate m zc40 ++ List.replicate (r - m) zc40 := by rw [List.replicate_append_replicate, Nat.add_sub_cancel' hr]
    rw [this, List.flatten_append]
    exact List.drop_left' (by simp [List.length_flatten, List.map_replicate, List.sum_replicate_nat])
  rw [e1, e2, e3]
  unfold rowR
  rw [lcells, lcells, ← flatC_app, List.replicate_append_replicate]
theorem rowR_one (d r : Nat) : ∀ v ∈ rowR d r, v.oneCell' = true := fun v hv => by
  rcases List.mem_append.1 hv with h | h
  · exact lcells_one _ v h
  · obtain ⟨l, hl, hv⟩ := List.mem_flatten.1 h
    rw [List.eq_of_mem_replicate hl] at hv
    simp only [zc40, List.mem_cons, List.not_mem_nil, or_false] at hv
    rcases hv with rfl | rfl | rfl | rfl | rfl | rfl | rfl | rfl <;> rfl
def RepP (w : World) (n : Nat) (e : Ending) (w' : World) : Prop := ∃ A c, e = .returned (.slice A n c) ∧ Own w' w.heap.size 71 8 A n c (lcells (List.replicate n l0)) ∧ Below w.heap.size w w'
theorem RepP.mk {w w' : World} {n : Nat} {A : Option Addr} {c : Nat} (h : Own w' w.heap.size 71 8 A n c (rowR n 0)) (hb : Below w.heap.size w w') : RepP w n (.returned (.slice A n c)) w' := ⟨A, c, rfl, by
  have e : rowR n 0 = lcells (List.replicate n l0) := by simp [rowR]
  rw [← e]
  exact h, hb⟩
set_option maxRecDepth 100000 in
set_option maxHeartbeats 4000000 in
theorem repeat_any (g n : Nat) (w : World) (hn : n ≤ 4) (hB : Blk w g 71 l0.cs.toArray) : Calls Try.prog 118 #[.slice (some ⟨g, 0, none⟩) 1 1, .int .i64 n] w (RepP w n) := by
  have M := Lib.hid (fun w => mul_any n hn w)
  have hn0 : ¬ ((n : Int) < 0) := by omega
  have hnI : (n : Int) ≤ 4 := by omega
  have hnn : (0 : Int) ≤ n := by omega
  have HB := Lib.hid hB
  clear hB
  go_enter Try.func118, Try.ntmps118
  go_wp2_with fail
  refine (M.out _).mono ?_
  rintro e w' ⟨rfl, rfl⟩
  go_upto_region 7 with (refine wpList_mk rfl (.tmp 29) (.tmp 29) 51 rfl 71 z40 8 40 Try.underlying51 info40 rfl (by decide) .i64 .i64 n rfl rfl (by omega) (by omega) ?_; intro w1 ho1 hb1)
  rw [rowR_zero] at ho1
  have hlt := HB.out.lt
  have hB1 := HB.out.below hb1
  obtain ⟨m, hm⟩ : ∃ m, min 1 n = m := ⟨_, rfl⟩
  have hm1 : m ≤ 1 := by omega
  obtain ⟨w2, q1, q2, q3⟩ := own_copy (P := Try.prog) ho1 51 51 3 Try.underlying51 (by kernel_rfl) 0 m n n (by omega) g 0 1 1 (by rw [← hm]) (l0.cs.take (m * 8)) (by rw [List.length_take]; simp; omega) (fun i v hv => by
    rw [hB1.cell, Nat.zero_add]
    rw [List.getElem?_take] at hv
    split at hv
    · simpa using hv
    · cases hv) (fun v hv => lcells_one [l0] v (by simpa [lcells, flatC] using List.mem_of_mem_take hv))
  have hR2 : (rowR 0 n).take (0 * 8) ++ l0.cs.take (m * 8) ++ (rowR 0 n).drop ((0 + m) * 8) = rowR m (n - m) := by
    rcases (by omega : m = 0 ∨ m = 1) with rfl | rfl
    · simp
    · obtain ⟨k, rfl⟩ : ∃ k, n = k + 1 := ⟨n - 1, by omega⟩
      simp only [rowR, List.replicate_succ, List.replicate_zero, lcells, flatC, List.flatten_cons]
      rfl
  rw [hR2] at q2
  have hb2 : Below w.heap.size w w2 := hb1.trans ((Chg.below q3 (fun i hi he => by subst he; exact Nat.le_refl _) hb1.size).mono (Nat.le_refl _))
  rw [show goInt (m : Int) = .int .i64 (m : Int) from rfl] at q1
  have HM : Hid (m ≤ n ∧ (m = 0 → n = 0)) := Lib.hid (by omega)
  have Q1 := Lib.hid q1
  have hR0 : Hid (Own w2 w.heap.size 71 8 (some ⟨w.heap.size, 0, none⟩) n n (rowR m (n - m)) ∧ Below w.heap.size w w2) := Lib.hid ⟨q2, hb2⟩
  clear q1 q2 q3 hR2 ho1 hB1 hm hb2
  go_wp2_with (refine wpList_cp w1 rfl (.tmp 31) (.tmp 32) 51 51 rfl (.slice (some ⟨w.heap.size, 0, none⟩) n n) (.slice (some ⟨g, 0, none⟩) 1 1) rfl rfl Q1.out ?_)
  go_loopw [8] (fun dv wr => ∃ d : Nat, d ≤ n ∧ dv = .int .i64 d ∧ (d = 0 → n = 0) ∧ Own wr w.heap.size 71 8 (some ⟨w.heap.size, 0, none⟩) n n (rowR d (n - d)) ∧ Below w.heap.size w wr) (fun dv _ => n - (intOf dv).toNat)
  case atStart => exact ⟨m, HM.out.1, rfl, HM.out.2, hR0.out⟩
  case round =>
    clear hR0 Q1
    obtain ⟨d, hd, rfl, hd0, hO, hb⟩ := hrel
    by_cases hlt : d < n
    · have hltI : (d : Int) < n := by omega
      have hd1 : 1 ≤ d := by
        rcases Nat.eq_zero_or_pos d with h | h
        · have := hd0 h; omega
        · exact h
      have hndN : ¬ (n = d) := by omega
      have hdn : ¬ (d = n) := by omega
      obtain ⟨m, hm⟩ : ∃ m, min d (n - d) = m := ⟨_, rfl⟩
      have hmd : m ≤ d := by omega
      have hmn : m ≤ n - d := by omega
      have hm1 : 1 ≤ m := by omega
      have HCP : Hid (∀ w', Own w' w.heap.size 71 8 (some ⟨w.heap.size, 0, none⟩) n n (rowR d (n - d)) ∧ Below w.heap.size w w' → ∃ w2, (Builtin.copy_ #[51, 51] 3 #[.slice (some ⟨w.heap.size, d * 8, none⟩) (n - d) (n - d), .slice (some ⟨w.heap.size, 0, none⟩) d n]).run Try.prog w' = .ok (.int .i64 m) w2 ∧ Own w2 w.heap.size 71 8 (some ⟨w.heap.size, 0, none⟩) n n (rowR (d + m) (n - d - m)) ∧ Below w.heap.size w w2) := Lib.hid fun w' h => by
        obtain ⟨w2, q1, q2, q3⟩ := own_copy (P := Try.prog) h.1 51 51 3 Try.underlying51 (by kernel_rfl) d m (n - d) (n - d) (by omega) w.heap.size 0 d n hm ((rowR d (n - d)).take (m * 8)) (by rw [List.length_take, rowR_len]; omega) (fun i v hv => h.1.cells i v (by
          rw [List.getElem?_take] at hv
          split at hv
          · exact hv
          · cases hv)) (fun v hv => rowR_one _ _ v (List.mem_of_mem_take hv))
        rw [rowR_copy d m (n - d) hmd hmn] at q2
        rw [Nat.zero_add] at q1
        exact ⟨w2, q1, q2, h.2.trans (Chg.below q3 (fun i hi he => by subst he; exact Nat.le_refl _) h.2.size)⟩
      obtain ⟨S, hS0⟩ : ∃ S, d + m = S := ⟨_, rfl⟩
      have hwS : IntKind.i64.wrap ((d : Int) + m) = (S : Int) := by rw [← hS0]; exact IntWalk.i64_in _ (by omega)
      obtain ⟨w8, q1, q2, q3⟩ := HCP.out wr.drew ⟨hO.drew, hb.drew⟩
      have Q1 := Lib.hid q1
      clear hO hb hd0 hm q1 HCP
      have HR0 := Lib.hid hdn
      go_wp2_with fail
      go_region_law (refine step_cp rfl (.tmp 41) (.tmp 44) 51 51 rfl (.slice (some ⟨w.heap.size, d * 8, none⟩) (n - d) (n - d)) (.slice (some ⟨w.heap.size, 0, none⟩) d n) (by simp [Act.eval, Act.put]) (by simp [Act.eval, Act.put]) Q1.out ?_)
      have hS : Own w8 w.heap.size 71 8 (some ⟨w.heap.size, 0, none⟩) n n (rowR (d + m) (n - d - m)) ∧ Below w.heap.size w w8 := ⟨q2, q3⟩
      have FF : Hid (∃ d' : Nat, d' ≤ n ∧ Value.int .i64 (S : Int) = .int .i64 d' ∧ (d' = 0 → n = 0) ∧ Own w8 w.heap.size 71 8 (some ⟨w.heap.size, 0, none⟩) n n (rowR d' (n - d')) ∧ Below w.heap.size w w8) := Lib.hid ⟨d + m, by omega, by rw [hS0], fun h => by omega, by rw [← Nat.sub_sub]; exact hS.1, hS.2⟩
      clear hS q2 q3 Q1
      try simp only [Act.put, List.setIfInBounds_toArray, List.set_cons_zero, List.set_cons_succ, List.getElem_toArray, List.getElem_cons_zero, List.getElem_cons_succ, Nat.reduceAdd]
      go_wp2_with fail
      go_roundw
      case rel => exact FF.out
      case measure => simp [intOf]; omega
    · obtain rfl : d = n := by omega
      rw [Nat.sub_self] at hO
      have FF := Lib.hid (RepP.mk hO hb)
      clear hO
      go_wp2_with fail
      go_ret
      exact FF.out
end Go.Proofs.Yteecgdbicokgoaa
