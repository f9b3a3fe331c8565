/- QueueSlides: the walk. -/
import Derived.Test.YtchneedpgpocnaaQ5
namespace Go.Proofs.Ytchneedpgpocnaa
open Go.RowKit
set_option linter.unusedVariables false
set_option linter.unusedSimpArgs false
def f4' : List Bool := [false, false, false, false]
theorem f4'_get (j : Nat) (h : j < 4) : f4'.getD j false = false := by
  have : j = 0 ∨ j = 1 ∨ j = 2 ∨ j = 3 := by omega
  rcases this with rfl | rfl | rfl | rfl <;> rfl
theorem f4'_set (j : Nat) (h : j < 4) : f4'.set j false = f4' := by
  have : j = 0 ∨ j = 1 ∨ j = 2 ∨ j = 3 := by omega
  rcases this with rfl | rfl | rfl | rfl <;> rfl
theorem bumpK_no (ks : List (Int × Int × List Int)) : bumpK false ks = ks := by
  cases ks with
  | nil => rfl
  | cons k r => obtain ⟨x, y, z⟩ := k; rfl
/-- Packets that a sample of the walk is made of. -/
def sl (i : Int) (j : Nat) : Int × Int × List Int := (4, j, [i])
def slL (i : Int) (k : Nat) : List (Int × Int × List Int) := (List.range k).map (sl i)
theorem slL_succ (i : Int) (k : Nat) : slL i k ++ [sl i k] = slL i (k + 1) := by simp [slL, List.range_succ]
theorem slL_drop (i : Int) (n k : Nat) (h : k < n) : (slL i n).drop k = sl i k :: (slL i n).drop (k + 1) := by
  rw [List.drop_eq_getElem_cons (by simp [slL]; exact h)]
  simp [slL]
set_option maxRecDepth 100000 in
set_option maxHeartbeats 4000000 in
theorem slides_any (n most many : Int) (w : World) (hn : 0 ≤ n ∧ n < 256) (hm : 0 ≤ most ∧ most < 256) (ht : 0 ≤ many ∧ many < 65536) :
    Calls Try.prog 5 #[.int .u8 n, .int .u8 most, .int .u16 many] w fun e w' => e = .returned (.bool true) ∧ Below w.heap.size w w' := by
  obtain ⟨K, hK⟩ : ∃ K : Nat, n % 8 + 1 = (K : Int) := ⟨(n % 8 + 1).toNat, by omega⟩
  obtain ⟨M, hM⟩ : ∃ M : Nat, many % 201 = M := ⟨(many % 201).toNat, by omega⟩
  have hK8 : K ≤ 8 := by omega
  have hK1 : 1 ≤ K := by omega
  have hM9 : M ≤ 200 := by omega
  have hM1 : (M : Int) ≤ many % 201 := by omega
  have hM2 : many % 201 ≤ (M : Int) := by omega
  have hr0 : 0 ≤ most % (64 - (K : Int) + 1) := Int.emod_nonneg _ (by omega)
  have hr1 : most % (64 - (K : Int) + 1) ≤ 64 - K := by have := Int.emod_lt_of_pos most (b := 64 - (K : Int) + 1) (by omega); omega
  have hT1 : 1 ≤ (K : Int) + most % (64 - (K : Int) + 1) := by omega
  have hT2 : (K : Int) + most % (64 - (K : Int) + 1) ≤ 64 := by omega
  have hT3 : (K : Int) ≤ (K : Int) + most % (64 - (K : Int) + 1) := by omega
  clear hM
  go_enter Try.func5, Try.ntmps5
  go_wp2_with fail
  refine (shown_any _).mono ?_
  rintro e w1 ⟨rfl, b1⟩
  have z1 := b1.size
  go_wp2_with fail
  refine (new_QK _ _ w.heap.size z1 hT1 hT2).mono ?_
  rintro e w2 ⟨q, rfl, Q2, b2⟩
  have b2' := b1.trans b2
  have z2 := b2'.size
  go_wp2_with fail
  generalize (K : Int) + most % (64 - (K : Int) + 1) = T at *
  go_loopw [43] (fun i wr => ∃ k : Nat, k ≤ M ∧ i = .int .i64 k ∧ QK wr w.heap.size q ⟨T, [], f4'⟩ ∧ Below w.heap.size w wr) (fun i _ => M - (intOf i).toNat)
  case atStart => exact ⟨0, Nat.zero_le _, rfl, Q2, b2'⟩
  case round =>
    obtain ⟨k, hk, rfl, Q, br⟩ := hrel
    have zr := br.size
    by_cases hlt : k < M
    · have hlt' : (k : Int) < M := by omega
      have hkd : decide ((k : Int) < many % 201) = true := by simp; omega
      go_wp2_with fail
      go_loopw [12, 47] (fun v j wx => ∃ (jj : Nat) (A : Option Addr) (c : Nat) (its : List It), jj ≤ K ∧ j = .int .i64 jj ∧ v = .slice A jj c ∧ its.length = jj ∧ its.map It.key = slL k jj ∧ Own wx wr.heap.size 31 3 A jj c (cellsL its) ∧ ItOk wx wr.heap.size its ∧ Below wr.heap.size wr wx) (fun _ j _ => K - (intOf j).toNat)
      case atStart => exact ⟨0, none, 0, [], Nat.zero_le _, rfl, rfl, rfl, rfl, Own.nil _ _ _ _, ItOk.nil _ _, Below.refl _ _⟩
      case round =>
        rename World => wx
        obtain ⟨jj, A, c, its, hj, rfl, rfl, hil, hik, ho, hit, hbx⟩ := hrel
        have zx := hbx.size
        have HIL := Lib.hid hil
        have HIK := Lib.hid hik
        clear hil hik
        by_cases hjK : jj < K
        · have hjK' : (jj : Int) < K := by omega
          have HB := (Own.made (e := 5) (size := 1) wx zx #[.int .u8 k] 1 1 (by decide) (by decide) rfl).alloc (.cells #[.int .u8 4, .int .u8 jj, .slice (some ⟨wx.heap.size, 0, none⟩) 1 1] 31)
          have hit2 : ItOk ((wx.alloc (.cells #[.int .u8 k] 5)).alloc (.cells #[.int .u8 4, .int .u8 jj, .slice (some ⟨wx.heap.size, 0, none⟩) 1 1] 31)) wr.heap.size (its ++ [⟨4, jj, some ⟨wx.heap.size, 0, none⟩, 1, 1, [(k : Int)]⟩]) := fun t ht => by
            rcases List.mem_append.1 ht with h | h
            · exact (hit.below (((Below.refl _ _).alloc (Nat.le_refl _) _).alloc (by simp) _)) t h
            · simp at h; subst h; exact ⟨rfl, Nat.le_of_ble_eq_true rfl, HB⟩
          have ho2 := (ho.alloc (.cells #[.int .u8 k] 5)).alloc (.cells #[.int .u8 4, .int .u8 jj, .slice (some ⟨wx.heap.size, 0, none⟩) 1 1] 31)
          have hrd := Rd.new (wx.alloc (.cells #[.int .u8 k] 5)) [.int .u8 4, .int .u8 jj, .slice (some ⟨wx.heap.size, 0, none⟩) 1 1] 31
          have hb2 := (hbx.alloc zx (.cells #[.int .u8 k] 5)).alloc (by simp; omega) (.cells #[.int .u8 4, .int .u8 jj, .slice (some ⟨wx.heap.size, 0, none⟩) 1 1] 31)
          simp only [World.size_alloc] at hrd
          go_wp2_with (at_builtin; refine wpList_app _ rfl (.tmp 50) (.tmp 57) 28 rfl wr.heap.size 31 (.agg #[.int .u8 0, .int .u8 0, .slice none 0 0]) 3 32 Try.underlying28 info31 rfl (by decide) A jj c _ rfl ho2 _ _ 1 1 _ rfl rfl hrd (three_one _ _ _ _ _) (by unfold maxLen; omega) (by omega) (by simp; omega) ?_; intro A' c' w' ho3 hg hbk)
          go_roundw
          case rel =>
            refine ⟨jj + 1, A', c', its ++ [⟨4, jj, some ⟨wx.heap.size, 0, none⟩, 1, 1, [(k : Int)]⟩], by omega, by go_num, rfl, by rw [List.length_append, HIL.out]; rfl, ?_, ?_, ?_, ?_⟩
            · rw [List.map_append, HIK.out, ← slL_succ]; rfl
            · rw [cellsL_app]; exact ho3
            · intro t ht
              obtain ⟨h1, h2, h3⟩ := hit2 t ht
              exact ⟨h1, h2, h3.grown hg (own_own_ne h3 ho2 (by decide))⟩
            · exact bel_app hb2 ho2 (Nat.le_refl _) hg
          case measure => simp [intOf]; omega
        · obtain rfl : jj = K := by omega
          obtain ⟨x, hx⟩ : ∃ x : Nat, k % 4 = x := ⟨_, rfl⟩
          have hx4 : x < 4 := by omega
          have hkm : (k : Int) % 4 = (x : Int) := by omega
          clear hx
          have hlen := HIL.out
          have C := Lib.hid (Q.putRow hbx zr x hx4 A jj c its true ⟨T, slL k jj, f4'⟩ HIL.out (by omega) (by omega) ho.rd (fun t ht => by
            obtain ⟨h1, h2, h3⟩ := hit t ht
            exact ⟨h1, h2, fun h => by have := h3.2.2.2.1 h; have := h3.2.1; omega, h3.rd, h3.2.1, h3.2.2.1⟩) (fun t ht => by
            have hk2 : t.key ∈ its.map It.key := List.mem_map_of_mem ht
            rw [HIK.out] at hk2
            obtain ⟨i, hi, he⟩ := List.mem_map.1 hk2
            simp only [List.mem_range] at hi
            simp only [sl, It.key, Prod.mk.injEq] at he
            omega) (by simp) (fun g hg => by
            rcases hg with hg | ⟨t, ht, hg⟩
            · exact .inl (ho.lt hg).1
            · exact .inl ((hit t ht).2.2.lt hg).1) (by simp [fitsQ]; omega) (by
            rw [HIK.out]
            unfold aput
            rw [if_pos (by simp [fitsQ, slL]; omega), f4'_get _ hx4, f4'_set _ hx4, bumpK_no]
            rfl))
          clear hlen
          go_wp2_with fail
          refine C.out.mono ?_
          rintro e w4 ⟨rfl, Q4, b4⟩
          have b4' := br.trans ((hbx.mono zr).trans b4)
          have z4 := b4'.size
          have L4 : Hid (Calls Try.prog 13 #[.pointer (some ⟨q, 0, none⟩)] w4 fun e w' => e = .returned (.int .i64 jj) ∧ w4 = w') := by
            have := Q4.len
            simp [slL] at this
            exact this
          clear C
          go_wp2_with fail
          refine L4.out.mono ?_
          rintro e w' ⟨rfl, rfl⟩
          go_wp2_with fail
          go_loopw [73] (fun i wy => ∃ j : Nat, j ≤ jj ∧ i = .int .i64 j ∧ QK wy w.heap.size q ⟨T, (slL k jj).drop j, f4'⟩ ∧ Below w.heap.size w wy) (fun i _ => jj - (intOf i).toNat)
          case atStart => exact ⟨0, Nat.zero_le _, rfl, Q4, b4'⟩
          case round =>
            rename World => wy
            obtain ⟨j, hjj, rfl, QY, by_⟩ := hrel
            have zy := by_.size
            by_cases hjl : j < jj
            · have hjl' : (j : Int) < jj := by omega
              rw [slL_drop _ _ _ hjl, sl] at QY
              go_wp2_with fail
              refine (QY.next zy (by simp [slL]; omega)).mono ?_
              rintro e w5 ⟨A5, n5, c5, rfl, hn5, ho5, Q5, b5, -⟩
              have b5' := by_.trans b5
              have z5 := b5'.size
              obtain rfl : n5 = 1 := by simpa using hn5.symm
              obtain ⟨g5, o5, rfl⟩ := ho5.at_ (by decide)
              have d5 : ∀ o, (w5.alloc o).cell? ⟨g5, o5, none⟩ = some (.int .u8 k) := fun o => (ho5.alloc o).cells 0 _ rfl
              have hc5 : 1 ≤ c5 := ho5.2.1
              clear hn5
              go_wp2_with fail
              go_roundw
              case rel => exact ⟨j + 1, by omega, by go_num, Q5.below ((Below.refl _ _).alloc (Nat.le_refl _) _), b5'.alloc z5 _⟩
              case measure => simp [intOf]; omega
            · obtain rfl : j = jj := by omega
              have hdn : (slL k j).drop j = [] := by rw [List.drop_of_length_le (by simp [slL])]
              rw [hdn] at QY
              clear hdn
              go_wp2_with fail
              go_roundw
              case rel => exact ⟨k + 1, by omega, by go_num, QY, by_⟩
              case measure => simp [intOf]; omega
    · obtain rfl : k = M := by omega
      go_wp2_with fail
      refine (Q.len).mono ?_
      rintro e w' ⟨rfl, rfl⟩
      go_wp2_with fail
      go_ret
      exact ⟨rfl, br⟩
end Go.Proofs.Ytchneedpgpocnaa
