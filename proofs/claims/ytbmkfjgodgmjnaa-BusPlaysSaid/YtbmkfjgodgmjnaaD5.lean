/- BusNone: the walk. -/
import Derived.Test.YtbmkfjgodgmjnaaD4
import Derived.Deep.OwnRows
namespace Go.Proofs.Ytbmkfjgodgmjnaa
open Go.RowKit
set_option linter.unusedVariables false
set_option linter.unusedSimpArgs false
theorem fstK_none (m : Nat) (s : Nat → Bx) : ∀ k, fstK (List.replicate m none) s k = (0, Fr.none_, false)
  | 0 => rfl
  | k + 1 => by
    unfold fstK
    rw [fstK_none m s k, List.getElem?_replicate]
    split
    · rfl
    · next x hx =>
      split at hx
      · cases hx
        simp [hd]
      · cases hx
theorem putK_none (m : Nat) (s : Nat → Bx) (f : Fr) : ∀ k, putK (List.replicate m none) s f k = (s, 0)
  | 0 => rfl
  | k + 1 => by
    unfold putK
    rw [putK_none m s f k, List.getElem?_replicate]
    split
    · next q hx =>
      split at hx
      · cases hx
      · cases hx
    · rfl
theorem made_ptrs (m : Nat) : madeCells #[.pointer none] m = (ptrs (List.replicate m none)).toArray := by
  apply Array.ext
  · simp [size_madeCells, ptrs]
  · intro i h1 h2
    simp [madeCells, ptrs, ptr, Nat.mod_one]
theorem info28 : (Try.prog.info? 28).map (fun i => (i.zero, i.size, i.bytes)) = some (some (.pointer none), 1, 8) := by kernel_rfl
set_option maxRecDepth 100000 in
set_option maxHeartbeats 1000000 in
theorem none_any (f : Fr) (hf : f.wf) (n : Int) (h0 : 0 ≤ n) (h1 : n < 256) (w : World) : Calls Try.prog 11 #[f.val, .int .u8 n] w fun e w' => e = .returned (.bool true) ∧ Below w.heap.size w w' := by
  obtain ⟨i28, hi, hz, hs, hby⟩ := info_parts info28
  have hi := Lib.hid hi
  have hz := Lib.hid hz
  have hs := Lib.hid hs
  have hby := Lib.hid hby
  obtain ⟨m, hm⟩ : ∃ m : Nat, n % 10 = m := ⟨(n % 10).toNat, by omega⟩
  have hm9 : m < 10 := by omega
  go_enter Try.func11, Try.ntmps11
  go_upto_region 1 with fail
  refine wp_named fun W hW => ?_
  obtain ⟨BW, hbW⟩ := blk1 (c1 := f.cs.toArray) hW
  clear hW
  have hzW := hbW.size
  go_wp2_with fail
  refine (bshown_any _).mono ?_
  rintro e w1 ⟨rfl, b1⟩
  have hb1 := hbW.trans (b1.mono hzW)
  have H1 := Lib.hid (show NS w.heap.size (fun _ => False) (fun _ => False) w none [] none [] (fun _ => b0 []) (fun _ => b0 []) (fun _ => (0, 9)) w1 from ⟨fun q h => h.elim, fun q h => h.elim, nu0 _, RdC.nil, RdC.nil, hb1.size, hb1, Nat.le_refl _⟩)
  have F1 := Lib.hid (show BlC (fun _ => (0, 9)) (0, 9) w1 w.heap.size 26 f.cs.toArray from ⟨BW.below b1, rfl⟩)
  clear BW
  go_upto_region 3 with (refine wpList_make_row _ rfl (.tmp 15) (.tmp 15) 58 rfl 28 i28 (.pointer none) Try.underlying58 hi.out hz.out hs.out rfl .u8 .u8 m (show Value.int .u8 (n % 10) = .int .u8 (m : Int) by rw [hm]) (show Value.int .u8 (n % 10) = .int .u8 (m : Int) by rw [hm]) (by rw [hby.out]; omega) (by omega) ?_)
  refine wp_named fun W3 hW3 => ?_
  rw [made_ptrs] at hW3
  have H3 : NS w.heap.size (fun _ => False) (fun _ => False) w (some ⟨w1.heap.size, 0, none⟩) (List.replicate m none) none [] (fun _ => b0 []) (fun _ => b0 []) (fun _ => (0, 9)) W3 := by subst hW3; exact H1.out.row _ 28
  have F3 : BlC (fun _ => (0, 9)) (0, 9) W3 w.heap.size 26 f.cs.toArray := by subst hW3; exact F1.out.below (bl1 _ _)
  have hD : ∀ q, some q ∈ List.replicate m (none : Option Nat) → False := fun q hq => by have := List.eq_of_mem_replicate hq; cases this
  have hml : m ≤ maxLen := by unfold maxLen; omega
  have N1 := ns_first H3 (n := m) (c := m) hD (by simp) (Nat.le_refl _) hml
  rw [fstK_none] at N1
  have N1 := Lib.hid N1
  have H3 := Lib.hid H3
  clear hW3
  go_wp2_with fail
  refine N1.out.mono ?_
  rintro e w4 ⟨rfl, b4⟩
  have b4a := b4.trans ((bl1 w4 (.cells Fr.none_.cs.toArray 26)).mono b4.size)
  have H4 := H3.out.below b4a
  have F4 := F3.below b4a
  have N2 := ns_turn H4 (n := m) (c := m) false hD (by simp) (Nat.le_refl _) hml
  rw [show turnV (List.replicate m none) (fun _ => b0 []) m = (0, Fr.none_, false) by unfold turnV; rw [fstK_none]; rfl, show turnS (List.replicate m none) (fun _ => b0 []) m false = (fun _ => b0 []) by unfold turnS; rw [fstK_none]; rfl] at N2
  have N2 := Lib.hid N2
  clear N1 H3 H4 F3 b4a
  go_wp2_with fail
  refine N2.out.mono ?_
  rintro e w5 ⟨rfl, Φ5, H5, x5⟩
  have b5a := bl1 w5 (.cells Fr.none_.cs.toArray 26)
  have H6 := H5.below b5a
  have F6 := (F4.ext x5 SA.no9).below b5a
  have N3 := ns_put H6 (n := m) (c := m) hD (by simp) (Nat.le_refl _) hml f hf
  rw [putK_none] at N3
  have N3 := Lib.hid N3
  have fc := F6.1.cell
  clear N2 H5 x5 F4
  go_wp2_with fail
  refine N3.out.mono ?_
  rintro e w7 ⟨rfl, Φ7, H7, -⟩
  have HB := Lib.hid H7.bel
  clear N3 H7
  go_wp2_with fail
  go_ret
  exact ⟨rfl, HB.out⟩
end Go.Proofs.Ytbmkfjgodgmjnaa
