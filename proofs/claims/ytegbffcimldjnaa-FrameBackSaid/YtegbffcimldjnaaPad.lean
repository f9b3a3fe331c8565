import Derived.Test.YtegbffcimldjnaaBytes
namespace Go.Proofs.Ytegbffcimldjnaa
open Go.RowKit
set_option linter.unusedVariables false
set_option linter.unusedSimpArgs false

def padL (bs : List Int) (n : Nat) (c : Int) (k : Nat) : List Int := (List.range k).map fun i => if i < n then bs.getD i 0 else c
theorem padL_succ (bs : List Int) (n : Nat) (c : Int) (k : Nat) (h : n ≤ k) : padL bs n c k ++ [c] = padL bs n c (k + 1) := by
  simp [padL, List.range_succ, Nat.not_lt.2 h]
theorem padL_len (bs : List Int) (n : Nat) (c : Int) (k : Nat) : (padL bs n c k).length = k := by simp [padL]
theorem padL_get (bs : List Int) (n : Nat) (c : Int) (k i : Nat) (hi : i < k) : (padL bs n c k).getD i 0 = if i < n then bs.getD i 0 else c := by
  simp [padL, hi]
theorem padL_out (bs : List Int) (n : Nat) (c : Int) (k i : Nat) (hi : k ≤ i) : (padL bs n c k).getD i 0 = 0 := by
  have : (padL bs n c k)[i]? = none := by simp [padL]; omega
  simp [this]
theorem boxF_pad {id : Int} {ext : Bool} {n : Nat} {bs : List Int} (c : Int) (hk : Fr.may ⟨id, ext, n, bs⟩ = true) : boxF id ext n bs = boxF id ext n (padL bs n c n) := by
  have h := hk
  simp only [Fr.may, Bool.and_eq_true, decide_eq_true_eq, Fr.zeros, List.all_eq_true, List.mem_range] at h
  have hg : ∀ i, i < 8 → bs.getD i 0 = (padL bs n c n).getD i 0 := fun i hi => by
    have hz := h.2 i hi
    rcases Nat.lt_or_ge i n with h1 | h1
    · rw [padL_get _ _ _ _ _ h1, if_pos h1]
    · rw [padL_out _ _ _ _ _ h1]
      simp only [Bool.or_eq_true, decide_eq_true_eq, beq_iff_eq] at hz
      rcases hz with hz | hz
      · omega
      · exact hz
  simp only [boxF, hg 0 (by omega), hg 1 (by omega), hg 2 (by omega), hg 3 (by omega), hg 4 (by omega), hg 5 (by omega), hg 6 (by omega), hg 7 (by omega)]
theorem boxF_len (id : Int) (ext : Bool) (len len' : Int) (ys : List Int) : (boxF id ext len ys).setIfInBounds 2 (.int .i64 len') = boxF id ext len' ys := by simp [boxF]

theorem boxF_one (id : Int) (ext : Bool) (len : Int) (ys : List Int) : (boxF id ext len ys).all (·.oneCell') = true := by simp [boxF, Value.oneCell']

set_option maxHeartbeats 2000000 in
theorem pad_any (f : Fr) (c : Int) (w : World) (hf : f.wf) : Calls Try.prog 20 #[f.val, .int .u8 c] w fun e w' => e = .returned (f.pad c).val ∧ Below w.heap.size w w' := by
  obtain ⟨id, ext, len, bs⟩ := f
  cases hk : Fr.may ⟨id, ext, len, bs⟩
  · have HP : Hid (Fr.pad ⟨id, ext, len, bs⟩ c = ⟨id, ext, len, bs⟩) := by simp [Hid, Fr.pad, hk]
    go_enter Try.func20, Try.ntmps20
    go_wp2_with fail
    refine (may_any ⟨id, ext, len, bs⟩ _ hf).mono ?_
    rintro e w1 ⟨rfl, hb⟩
    have B1 := ((Blk.new w 26 _).alloc _).below hb
    have B2 := (Blk.new (w.alloc _) 26 _).below hb
    have c1 := B1.cell
    simp only [World.size_alloc] at B2
    have hbel : Below w.heap.size w w1 := bel1 (w' := w1) (((Below.refl _ _).alloc (Nat.le_refl _) _).trans (hb.mono (by simp)))
    clear hb
    go_wp2_with (refine wpList_storeB rfl 26 (.tmp 4) (.tmp 8) rfl (w.heap.size + 1) 26 _ (boxF id ext len bs) rfl rfl B2 rfl (by kernel_rfl) (boxF_one _ _ _ _) ?_; intro w2 B2' hg2)
    refine bodyPost_ret (v := Fr.val ⟨id, ext, len, bs⟩) (results_blk Try.results20 _ w2 (w.heap.size + 1) 26 (boxF id ext len bs) _ rfl B2' Try.underlying26 rfl (by kernel_rfl)) rfl ⟨?_, bel_grown hbel hg2 (by omega)⟩
    rw [HP.out]
  · obtain ⟨n, rfl⟩ : ∃ n : Nat, len = n := ⟨len.toNat, by
      have h := hk
      simp only [Fr.may, Bool.and_eq_true, decide_eq_true_eq] at h
      omega⟩
    have hn : n ≤ 8 := (bytes_len hk).1
    have HP : Hid (Fr.val (Fr.pad ⟨id, ext, n, bs⟩ c) = .agg (boxF id ext 8 (padL bs n c 8))) := by
      show _ = _
      simp only [Fr.pad, hk, if_true]
      simp only [Fr.val, boxF, Fr.g, padL, Int.ofNat_lt, decide_eq_true_eq]
    have hb0 := boxF_pad c hk
    go_enter Try.func20, Try.ntmps20
    go_wp2_with fail
    refine (may_any ⟨id, ext, n, bs⟩ _ hf).mono ?_
    rintro e w1 ⟨rfl, hb⟩
    have B1 : Blk w1 w.heap.size 26 (boxF id ext n (padL bs n c n)) := by rw [← hb0]; exact ((Blk.new w 26 _).alloc _).below hb
    have B2 := (Blk.new (w.alloc _) 26 _).below hb
    simp only [World.size_alloc] at B2
    have hbel : Below w.heap.size w w1 := bel1 (w' := w1) (((Below.refl _ _).alloc (Nat.le_refl _) _).trans (hb.mono (by simp)))
    clear hb hb0
    go_wp2
    go_loopg [] (8 - n) (fun m wr => ∃ k : Nat, n ≤ k ∧ k + m = 8 ∧ Blk wr w.heap.size 26 (boxF id ext k (padL bs n c k)) ∧ Blk wr (w.heap.size + 1) 26 (boxF 0 false 0 []) ∧ Below w.heap.size w wr)
    case atStart => exact ⟨n, Nat.le_refl _, by omega, B1, B2, hbel⟩
    case round =>
      obtain ⟨k, hk1, hk2, hB1, hB2, hbl⟩ := hrel
      have hc1 : wr.cell? ⟨w.heap.size, 2, none⟩ = some (.int .i64 k) := (hB1.cell 2).trans rfl
      by_cases hlt : k < 8
      · have hlt' : (k : Int) < 8 := by omega
        have hc2 : wr.cell? ⟨w.heap.size, 3 + k, none⟩ = some (.int .u8 ((padL bs n c k).getD k 0)) := (hB1.cell _).trans (boxF_get _ _ _ _ _ hlt)
        generalize (padL bs n c k).getD k 0 = v at hc2
        have hf1 := hB1.frozen
        go_wp2
        go_roundg (gk - 1)
        case measure => omega
        case rel =>
          refine ⟨k + 1, by omega, by omega, ?_, (hB2.far (by simp) _).far (by simp) _, (hbl.setCell (Nat.le_refl _) _).setCell (Nat.le_refl _) _⟩
          have h := (hB1.set_ (3 + k) (.int .u8 c)).set_ 2 (.int .i64 (k + 1))
          rw [boxF_set _ _ _ _ _ k (padL_len _ _ _ _) hlt, padL_succ _ _ _ _ hk1, boxF_len] at h
          exact h
      · obtain rfl : k = 8 := by omega
        go_wp2_with (first | (refine wpList_load_row rfl 26 (.tmp 2) rfl w.heap.size rfl 26 (boxF id ext 8 (padL bs n c 8)) (0, 0) _ hB1 Try.underlying26 rfl (by kernel_rfl) ?_) | (refine wpList_storeB rfl 26 (.tmp 4) (.tmp 21) rfl (w.heap.size + 1) 26 _ (boxF id ext 8 (padL bs n c 8)) rfl rfl hB2 rfl (by kernel_rfl) (boxF_one _ _ _ _) ?_; intro w2 B2' hg2))
        refine bodyPost_ret (v := .agg (boxF id ext 8 (padL bs n c 8))) (results_blk Try.results20 _ w2 (w.heap.size + 1) 26 (boxF id ext 8 (padL bs n c 8)) _ rfl B2' Try.underlying26 rfl (by kernel_rfl)) rfl ⟨by rw [HP.out], bel_grown hbl hg2 (by omega)⟩

set_option maxHeartbeats 2000000 in
theorem refpad_any (f : Fr) (c : Int) (w : World) (hf : f.wf) : Calls Try.prog 21 #[f.val, .int .u8 c] w fun e w' => e = .returned (f.pad c).val ∧ Below w.heap.size w w' := by
  obtain ⟨id, ext, len, bs⟩ := f
  cases hk : Fr.may ⟨id, ext, len, bs⟩
  · have HP : Hid (Fr.pad ⟨id, ext, len, bs⟩ c = ⟨id, ext, len, bs⟩) := by simp [Hid, Fr.pad, hk]
    go_enter Try.func21, Try.ntmps21
    go_wp2_with fail
    refine (refmay_any ⟨id, ext, len, bs⟩ _ hf).mono ?_
    rintro e w1 ⟨rfl, hb⟩
    have B1 := ((Blk.new w 26 _).alloc _).below hb
    have B2 := (Blk.new (w.alloc _) 26 _).below hb
    have c1 := B1.cell
    simp only [World.size_alloc] at B2
    have hbel : Below w.heap.size w w1 := bel1 (w' := w1) (((Below.refl _ _).alloc (Nat.le_refl _) _).trans (hb.mono (by simp)))
    clear hb
    go_wp2_with (refine wpList_storeB rfl 26 (.tmp 4) (.tmp 9) rfl (w.heap.size + 1) 26 _ (boxF id ext len bs) rfl rfl B2 rfl (by kernel_rfl) (boxF_one _ _ _ _) ?_; intro w2 B2' hg2)
    refine bodyPost_ret (v := Fr.val ⟨id, ext, len, bs⟩) (results_blk Try.results21 _ w2 (w.heap.size + 1) 26 (boxF id ext len bs) _ rfl B2' Try.underlying26 rfl (by kernel_rfl)) rfl ⟨?_, bel_grown hbel hg2 (by omega)⟩
    rw [HP.out]
  · obtain ⟨n, rfl⟩ : ∃ n : Nat, len = n := ⟨len.toNat, by
      have h := hk
      simp only [Fr.may, Bool.and_eq_true, decide_eq_true_eq] at h
      omega⟩
    have hn : n ≤ 8 := (bytes_len hk).1
    have HP : Hid (Fr.val (Fr.pad ⟨id, ext, n, bs⟩ c) = .agg (boxF id ext 8 (padL bs n c 8))) := by
      show _ = _
      simp only [Fr.pad, hk, if_true]
      simp only [Fr.val, boxF, Fr.g, padL, Int.ofNat_lt, decide_eq_true_eq]
    have hb0 := boxF_pad c hk
    go_enter Try.func21, Try.ntmps21
    go_wp2_with fail
    refine (refmay_any ⟨id, ext, n, bs⟩ _ hf).mono ?_
    rintro e w1 ⟨rfl, hb⟩
    have B1 : Blk w1 w.heap.size 26 (boxF id ext n (padL bs n c n)) := by rw [← hb0]; exact ((Blk.new w 26 _).alloc _).below hb
    have B2 := (Blk.new (w.alloc _) 26 _).below hb
    simp only [World.size_alloc] at B2
    have hbel : Below w.heap.size w w1 := bel1 (w' := w1) (((Below.refl _ _).alloc (Nat.le_refl _) _).trans (hb.mono (by simp)))
    have hc0 : w1.cell? ⟨w.heap.size, 2, none⟩ = some (.int .i64 n) := (B1.cell 2).trans rfl
    clear hb hb0
    go_wp2
    go_loopg [5] (8 - n) (fun m i wr => ∃ k : Nat, n ≤ k ∧ k + m = 8 ∧ i = .int .i64 k ∧ Blk wr w.heap.size 26 (boxF id ext n (padL bs n c k)) ∧ Blk wr (w.heap.size + 1) 26 (boxF 0 false 0 []) ∧ Below w.heap.size w wr)
    case atStart => exact ⟨n, Nat.le_refl _, by omega, rfl, B1, B2, hbel⟩
    case round =>
      obtain ⟨k, hk1, hk2, rfl, hB1, hB2, hbl⟩ := hrel
      by_cases hlt : k < 8
      · have hlt' : (k : Int) < 8 := by omega
        have hc2 : wr.cell? ⟨w.heap.size, 3 + k, none⟩ = some (.int .u8 ((padL bs n c k).getD k 0)) := (hB1.cell _).trans (boxF_get _ _ _ _ _ hlt)
        generalize (padL bs n c k).getD k 0 = v at hc2
        have hf1 := hB1.frozen
        go_wp2
        go_roundg (gk - 1)
        case measure => omega
        case rel =>
          refine ⟨k + 1, by omega, by omega, by go_num, ?_, hB2.far (by simp) _, hbl.setCell (Nat.le_refl _) _⟩
          have h := hB1.set_ (3 + k) (.int .u8 c)
          rw [boxF_set _ _ _ _ _ k (padL_len _ _ _ _) hlt, padL_succ _ _ _ _ hk1] at h
          exact h
      · obtain rfl : k = 8 := by omega
        have hc2 : wr.cell? ⟨w.heap.size, 2, none⟩ = some (.int .i64 n) := (hB1.cell _).trans rfl
        have hf1 := hB1.frozen
        have hB3 : Blk (wr.setCell ⟨w.heap.size, 2, none⟩ (.int .i64 8)) w.heap.size 26 (boxF id ext 8 (padL bs n c 8)) := by
          have h := hB1.set_ 2 (.int .i64 8)
          rwa [boxF_len] at h
        have hB4 : Blk (wr.setCell ⟨w.heap.size, 2, none⟩ (.int .i64 8)) (w.heap.size + 1) 26 (boxF 0 false 0 []) := hB2.far (by simp) _
        go_wp2_with (first | (refine wpList_load_row rfl 26 (.tmp 2) rfl w.heap.size rfl 26 (boxF id ext 8 (padL bs n c 8)) (0, 0) _ hB3 Try.underlying26 rfl (by kernel_rfl) ?_) | (refine wpList_storeB rfl 26 (.tmp 4) (.tmp 21) rfl (w.heap.size + 1) 26 _ (boxF id ext 8 (padL bs n c 8)) rfl rfl hB4 rfl (by kernel_rfl) (boxF_one _ _ _ _) ?_; intro w2 B2' hg2))
        refine bodyPost_ret (v := .agg (boxF id ext 8 (padL bs n c 8))) (results_blk Try.results21 _ w2 (w.heap.size + 1) 26 (boxF id ext 8 (padL bs n c 8)) _ rfl B2' Try.underlying26 rfl (by kernel_rfl)) rfl ⟨by rw [HP.out], bel_grown (hbl.setCell (Nat.le_refl _) _) hg2 (by omega)⟩
end Go.Proofs.Ytegbffcimldjnaa
