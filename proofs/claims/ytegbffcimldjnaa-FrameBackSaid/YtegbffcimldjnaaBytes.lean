import Derived.Test.YtegbffcimldjnaaApp
import Derived.Test.YtegbffcimldjnaaRank
namespace Go.Proofs.Ytegbffcimldjnaa
open Go.RowKit
set_option linter.unusedVariables false
set_option linter.unusedSimpArgs false

theorem info5 : (Try.prog.info? 5).map (fun i => (i.zero, i.size, i.bytes)) = some (some (.int .u8 0), 1, 1) := by kernel_rfl
/-- New bytes of the call's own are handed back. -/
def RetB (w : World) (xs : List Int) (e : Ending) (w' : World) : Prop := ∃ A c, e = .returned (.slice A xs.length c) ∧ Own w' w.heap.size 5 1 A xs.length c (u8s xs) ∧ Below w.heap.size w w'
theorem Rd.box {W : World} {g : Nat} {id : Int} {ext : Bool} {len : Int} {bs : List Int} {n : Nat} (h : Blk W g 26 (boxF id ext len bs)) (hn : n ≤ 8) : Rd W W.heap.size (some ⟨g, 3, none⟩) (u8s ((List.range n).map fun i => bs.getD i 0)) := fun _ => by
  refine ⟨g, 3, rfl, h.lt, fun i u hu => ?_⟩
  rw [h.cell]
  simp only [List.getElem?_map, List.map_map] at hu
  rcases Nat.lt_or_ge i n with hi | hi
  · rw [boxF_get _ _ _ _ _ (by omega), ← hu]
    simp [List.getElem?_range, hi]
  · simp [hi] at hu
theorem bytes_len {id : Int} {ext : Bool} {n : Nat} {bs : List Int} (hk : Fr.may ⟨id, ext, n, bs⟩ = true) : n ≤ 8 ∧ Fr.bytes ⟨id, ext, n, bs⟩ = (List.range n).map fun i => bs.getD i 0 := by
  have h := hk
  simp only [Fr.may, Bool.and_eq_true, decide_eq_true_eq] at h
  refine ⟨by omega, ?_⟩
  simp only [Fr.bytes, hk, if_true, Int.toNat_natCast]
  rfl

theorem u8s_one (xs : List Int) : ∀ u ∈ u8s xs, u.oneCell' = true := by
  intro u hu
  obtain ⟨a, _, rfl⟩ := List.mem_map.1 hu
  rfl

set_option maxHeartbeats 1000000 in
theorem bytes_any (f : Fr) (w : World) (hf : f.wf) : Calls Try.prog 17 #[f.val] w (RetB w f.bytes) := by
  obtain ⟨id, ext, len, bs⟩ := f
  cases hk : Fr.may ⟨id, ext, len, bs⟩
  · have e1 : Fr.bytes ⟨id, ext, len, bs⟩ = [] := by simp [Fr.bytes, hk]
    rw [e1]
    clear e1
    go_enter Try.func17, Try.ntmps17
    go_wp2_with (go_at_call 16; refine (may_any ⟨id, ext, len, bs⟩ _ hf).mono ?_; rintro e w' ⟨rfl, hb⟩)
    go_ret
    exact ⟨none, 0, rfl, Own.nil _ _ _ _, bel1 hb⟩
  · obtain ⟨n, rfl⟩ : ∃ n : Nat, len = n := ⟨len.toNat, by
      have h := hk
      simp only [Fr.may, Bool.and_eq_true, decide_eq_true_eq] at h
      omega⟩
    obtain ⟨hn, e1⟩ := bytes_len hk
    rw [e1]
    clear e1
    have hn' : (n : Int) ≤ 8 := by omega
    go_enter Try.func17, Try.ntmps17
    go_wp2_with fail
    refine (may_any ⟨id, ext, n, bs⟩ _ hf).mono ?_
    rintro e w1 ⟨rfl, hb⟩
    have B1 := Blk.new_below hb
    have c1 := B1.cell
    have c2 : ∀ o i, (w1.alloc o).cell? ⟨w.heap.size, i, none⟩ = _ := fun o => (B1.alloc o).cell
    have hr := Rd.box (B1.alloc (.cells #[] 5)) hn
    have hz := (bel1 hb).size
    have hbel := (bel1 hb).alloc (Nat.le_trans (Nat.le_refl _) hz) (.cells #[] 5)
    have ho := Own.made (e := 5) (size := 1) w1 hz #[] 0 0 (by decide) (by decide) rfl
    go_wp2_with (at_builtin; refine wpList_app _ rfl (.tmp 6) (.tmp 10) 23 rfl w.heap.size 5 (.int .u8 0) 1 1 Try.underlying23 info5 rfl (by decide) _ 0 0 [] rfl ho _ _ n 8 _ rfl (by simp) hr (u8s_one _) (by unfold maxLen; omega) (by omega) (by simp; omega) ?_; intro A' c' w' hown hg hbk)
    go_ret
    simp only [Nat.zero_add, List.nil_append] at hown
    have el : ((List.range n).map fun i => bs.getD i 0).length = n := by simp
    refine ⟨A', c', ?_, ?_, bel_app hbel ho (Nat.le_refl _) hg⟩
    · rw [el]; rfl
    · rw [el]; exact hown

set_option maxHeartbeats 1000000 in
theorem refbytes_any (f : Fr) (w : World) (hf : f.wf) : Calls Try.prog 19 #[f.val] w (RetB w f.bytes) := by
  obtain ⟨id, ext, len, bs⟩ := f
  cases hk : Fr.may ⟨id, ext, len, bs⟩
  · have e1 : Fr.bytes ⟨id, ext, len, bs⟩ = [] := by simp [Fr.bytes, hk]
    rw [e1]
    clear e1
    go_enter Try.func19, Try.ntmps19
    go_wp2_with (go_at_call 18; refine (refmay_any ⟨id, ext, len, bs⟩ _ hf).mono ?_; rintro e w' ⟨rfl, hb⟩)
    go_ret
    exact ⟨none, 0, rfl, Own.nil _ _ _ _, bel1 hb⟩
  · obtain ⟨n, rfl⟩ : ∃ n : Nat, len = n := ⟨len.toNat, by
      have h := hk
      simp only [Fr.may, Bool.and_eq_true, decide_eq_true_eq] at h
      omega⟩
    obtain ⟨hn, e1⟩ := bytes_len hk
    rw [e1]
    clear e1
    have hn' : (n : Int) ≤ 8 := by omega
    go_enter Try.func19, Try.ntmps19
    go_wp2_with fail
    refine (refmay_any ⟨id, ext, n, bs⟩ _ hf).mono ?_
    rintro e w1 ⟨rfl, hb⟩
    have B1 : Blk w1 w.heap.size 26 (boxF id ext n bs) := Blk.new_below hb
    have hb1 := bel1 hb
    clear hb
    go_wp2
    go_loopw [3, 4] (fun v i wr => ∃ (k : Nat) (A : Option Addr) (c : Nat), k ≤ n ∧ i = .int .i64 k ∧ v = .slice A k c ∧ Own wr w.heap.size 5 1 A k c (u8s ((List.range k).map fun i => bs.getD i 0)) ∧ Blk wr w.heap.size 26 (boxF id ext n bs) ∧ Below w.heap.size w wr) (fun _ i _ => n - (intOf i).toNat)
    case atStart => exact ⟨0, none, 0, Nat.zero_le _, rfl, rfl, Own.nil _ _ _ _, B1, hb1⟩
    case round =>
      obtain ⟨k, A, c, hk', rfl, rfl, hown, hB, hbel⟩ := hrel
      by_cases hlt : k < n
      · have hlt' : (k : Int) < n := by omega
        have hg := boxF_get id ext n bs k (by omega)
        have hc1 : wr.cell? ⟨w.heap.size, 2, none⟩ = some (.int .i64 n) := (hB.cell 2).trans rfl
        have hc2 : wr.cell? ⟨w.heap.size, 3 + k, none⟩ = some (.int .u8 (bs.getD k 0)) := (hB.cell (3 + k)).trans hg
        have ht : ((List.range k).map fun i => bs.getD i 0) ++ [bs.getD k 0] = (List.range (k + 1)).map fun i => bs.getD i 0 := by simp [List.range_succ]
        have HT : Hid (u8s ((List.range k).map fun i => bs.getD i 0) ++ [.int .u8 (bs.getD k 0)] = u8s ((List.range (k + 1)).map fun i => bs.getD i 0)) := by
          show _ = _
          rw [← ht]; simp
        clear hg ht
        generalize bs.getD k 0 = v at hc2 HT
        have hz := hbel.size
        go_wp2_with (at_builtin; refine wpList_app _ rfl (.tmp 14) (.tmp 19) 23 rfl w.heap.size 5 (.int .u8 0) 1 1 Try.underlying23 info5 rfl (by decide) A k c _ rfl (hown.alloc _) _ _ 1 1 _ rfl rfl (Rd.one wr (.int .u8 v) 5) (one_one rfl) (by unfold maxLen; omega) (by omega) (by simp; omega) ?_; intro A' c' w' hown' hg hbk)
        rw [HT.out] at hown'
        go_roundw
        case rel => exact ⟨k + 1, A', c', by omega, by go_num, rfl, hown', (hB.alloc _).grown hg (own_blk_ne hown hB (by decide)), bel_app (hbel.alloc hz _) (hown.alloc _) (Nat.le_refl _) hg⟩
        case measure => simp [intOf]; omega
      · obtain rfl : k = n := by omega
        have hc1 : wr.cell? ⟨w.heap.size, 2, none⟩ = some (.int .i64 k) := (hB.cell 2).trans rfl
        go_wp2
        go_ret
        have el : ((List.range k).map fun i => bs.getD i 0).length = k := by simp
        refine ⟨A, c, ?_, ?_, hbel⟩
        · rw [el]; rfl
        · rw [el]; exact hown
end Go.Proofs.Ytegbffcimldjnaa
