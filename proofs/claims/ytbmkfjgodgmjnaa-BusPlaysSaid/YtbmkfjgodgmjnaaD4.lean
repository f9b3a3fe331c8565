/- The bus: the examples; no boxes. -/
import Derived.Test.YtbmkfjgodgmjnaaD3
namespace Go.Proofs.Ytbmkfjgodgmjnaa
open Go.RowKit
set_option linter.unusedVariables false
set_option linter.unusedSimpArgs false
abbrev fl0 : List Flt := [⟨0, 0, false⟩]
abbrev box5 : Bx := ⟨fl0, [fr 5 false], [], false⟩
abbrev box3 : Bx := ⟨fl0, [fr 3 false], [], false⟩
theorem bsx1 : sendX (b0 fl0) (fr 5 false) = box5 ∧ sendE (b0 fl0) (fr 5 false) = 0 := ⟨by kernel_rfl, by kernel_rfl⟩
theorem bsx2 : sendX (b0 fl0) (fr 3 false) = box3 ∧ sendE (b0 fl0) (fr 3 false) = 0 := ⟨by kernel_rfl, by kernel_rfl⟩
theorem btx : takeX box5 (fr 3 false) = ⟨fl0, [fr 5 false], [fr 3 false], false⟩ := by kernel_rfl
theorem rk53 : decide ((fr 3 false).rank < (fr 5 false).rank) = true := by kernel_rfl
/-- What is said behind the two Sends. -/
def s35 (qa qb : Nat) : Nat → Bx := upd (upd (fun _ => b0 fl0) qa box5) qb box3
theorem s35_fst {qa qb : Nat} (h : qa ≠ qb) : fstK [some qa, some qb] (s35 qa qb) 2 = (1, fr 3 false, true) := by
  have ha : s35 qa qb qa = box5 := by unfold s35; rw [upd_ne _ _ h, upd_eq]
  have hb : s35 qa qb qb = box3 := by unfold s35; rw [upd_eq]
  have h1 : fstK [some qa, some qb] (s35 qa qb) 1 = (0, fr 5 false, true) := by
    simp [fstK, hd, ha]
  rw [fstK, h1]
  simp [hd, hb]
  have := rk53
  simpa using this
theorem s35_turn {qa qb : Nat} (h : qa ≠ qb) : turnV [some qa, some qb] (s35 qa qb) 2 = (1, fr 3 false, true) ∧ turnS [some qa, some qb] (s35 qa qb) 2 false qa = ⟨fl0, [fr 5 false], [fr 3 false], false⟩ := by
  have hf := s35_fst h
  refine ⟨by unfold turnV; rw [hf]; rfl, ?_⟩
  have ha : s35 qa qb qa = box5 := by unfold s35; rw [upd_ne _ _ h, upd_eq]
  unfold turnS
  rw [hf]
  dsimp only
  simp only [if_true, List.getElem?_cons_succ, List.getElem?_cons_zero]
  unfold afterT
  simp only [Bool.false_eq_true, if_false]
  have e1 : putK (([some qa, some qb] : List (Option Nat)).take 1) (upd (s35 qa qb) qb { s35 qa qb qb with tx := (s35 qa qb qb).tx.tail }) (fr 3 false) 1 = (upd (upd (s35 qa qb) qb { s35 qa qb qb with tx := (s35 qa qb qb).tx.tail }) qa (takeX box5 (fr 3 false)), 0 + if takeB box5 (fr 3 false) then 1 else 0) := by
    show (upd _ qa (takeX (upd (s35 qa qb) qb _ qa) _), _ + if takeB (upd (s35 qa qb) qb _ qa) _ then 1 else 0) = _
    rw [upd_ne _ _ h, ha]
    rfl
  rw [e1]
  show upd _ qa _ qa = _
  rw [upd_eq, btx]
set_option maxRecDepth 100000 in
set_option maxHeartbeats 1000000 in
theorem bshown_any (w : World) : Calls Try.prog 35 #[] w fun e w' => e = .returned (.bool true) ∧ Below w.heap.size w w' := by
  have fwf : ∀ x ∈ fl0, x.wf := by
    intro x hx
    simp at hx
    subst hx
    exact flt_wf _ _ _ (by decide) (by decide) (by decide) (by decide)
  have N1 := Lib.hid (new_lit (Φ := fun _ => (0, 9)) (B := w.heap.size) (nu0 w) (Nat.le_refl _) fl0 1 rfl (by decide) fwf)
  go_enter Try.func35, Try.ntmps35
  go_wp2_with fail
  refine N1.out.mono ?_
  rintro e w2 ⟨qa, Φ2, rfl, hqa, Ba, x2⟩
  have x2 := Ext.trans (Ext.of_below (nu0 w) (bl1 _ _)) x2
  have z2 := x2.size
  have hla := Ba.lt
  have N2 := Lib.hid (new_lit x2.nu z2 fl0 1 rfl (by decide) fwf)
  clear N1
  go_wp2_with fail
  refine N2.out.mono ?_
  rintro e w3 ⟨qb, Φ3, rfl, hqb, Bb, x3⟩
  have x3 := Ext.trans (Ext.of_below x2.nu (bl1 _ _)) x3
  have hne : qa ≠ qb := by simp at hqb; omega
  have HS := Lib.hid (show NS w.heap.size (fun q => q = qa ∨ q = qb) (fun _ => False) w none [] none [] (fun _ => b0 fl0) (fun _ => b0 []) Φ3 w3 from ⟨fun q hq => by
    rcases hq with rfl | rfl
    · exact Ba.ext x3 (fun _ _ h => h) (fun h => h)
    · exact Bb, fun r hr => hr.elim, x3.nu, RdC.nil, RdC.nil, Nat.le_trans z2 x3.size, (x2.below (Nat.le_refl _)).trans (x3.below z2), Nat.le_refl _⟩)
  have S1 := Lib.hid (ns_send HS.out (q := qa) (.inl rfl) (fr 5 false) (fr_wf 5 false (by decide) (by decide)))
  rw [bsx1.1, bsx1.2] at S1
  clear N2 Ba Bb x2 x3 HS hqa hqb hla z2
  go_wp2_with fail
  refine S1.out.mono ?_
  rintro e w4 ⟨rfl, Φ4, H4, -⟩
  have S2 := ns_send H4 (q := qb) (.inr rfl) (fr 3 false) (fr_wf 3 false (by decide) (by decide))
  rw [upd_ne _ _ (Ne.symm hne), bsx2.1, bsx2.2] at S2
  have S2 := Lib.hid S2
  clear S1 H4
  go_wp2_with fail
  refine S2.out.mono ?_
  rintro e w5 ⟨rfl, Φ5, H5, -⟩
  obtain ⟨x3, hx3⟩ : ∃ x, fr 3 false = x := ⟨_, rfl⟩
  have HI3 : Hid (x3.id = 3) := Lib.hid (by rw [← hx3]; rfl)
  have HX3 := Lib.hid hx3
  have H5 := Lib.hid H5
  clear S2 hx3
  go_wp2_with fail
  refine calls_named fun W hW => ?_
  have R5 : NS w.heap.size (fun q => q = qa ∨ q = qb) (fun _ => False) w (some ⟨w5.heap.size, 0, none⟩) [some qa, some qb] none [] (s35 qa qb) (fun _ => b0 []) Φ5 W := by subst hW; exact H5.out.row [some qa, some qb] 28
  have F := ns_first R5 (n := 2) (c := 2) (fun q hq => by simp at hq; exact hq) rfl (by decide) (by decide)
  rw [s35_fst hne, HX3.out] at F
  have F := Lib.hid F
  have R5 := Lib.hid R5
  clear hW H5
  refine F.out.mono ?_
  rintro e w6 ⟨rfl, b6⟩
  have b6a := b6.trans ((bl1 w6 (.cells x3.cs.toArray 26)).mono b6.size)
  go_upto_region 6 with fail
  refine wp_named fun W6 hW6 => ?_
  have H6 : Hid (NS w.heap.size (fun q => q = qa ∨ q = qb) (fun _ => False) w (some ⟨w5.heap.size, 0, none⟩) [some qa, some qb] none [] (s35 qa qb) (fun _ => b0 []) Φ5 W6) := Lib.hid (by subst hW6; exact R5.out.below b6a)
  clear F R5 b6a hW6
  go_wp2_with fail
  refine calls_named fun W2 hW2 => ?_
  have R6 : NS w.heap.size (fun q => q = qa ∨ q = qb) (fun _ => False) w (some ⟨W6.heap.size, 0, none⟩) [some qa, some qb] none [] (s35 qa qb) (fun _ => b0 []) Φ5 W2 := by subst hW2; exact H6.out.row [some qa, some qb] 28
  have T := ns_turn R6 (n := 2) (c := 2) false (fun q hq => by simp at hq; exact hq) rfl (by decide) (by decide)
  rw [(s35_turn hne).1, HX3.out] at T
  have T := Lib.hid T
  clear hW2 H6 R6
  refine T.out.mono ?_
  rintro e w7 ⟨rfl, Φ7, H7, -⟩
  have H8 := H7.below (bl1 w7 (.cells x3.cs.toArray 26))
  have RC := ns_recv H8 (q := qa) (.inl rfl)
  rw [(s35_turn hne).2, HX3.out] at RC
  have RC : Hid (Calls Try.prog 23 #[.pointer (some ⟨qa, 0, none⟩)] (w7.alloc (.cells x3.cs.toArray 26)) fun e w' => e = .returned (.tuple #[x3.val, .bool true]) ∧ Below w.heap.size w w') := Lib.hid (RC.mono fun e w' ⟨he, Φ', h, _⟩ => ⟨he, h.bel⟩)
  clear T H7 H8
  go_wp2_with fail
  refine RC.out.mono ?_
  rintro e w8 ⟨rfl, hb8⟩
  have HB : Hid (∀ o, Below w.heap.size w (w8.alloc o)) := Lib.hid fun o => hb8.trans ((bl1 w8 o).mono hb8.size)
  have hi3 := HI3.out
  have B8 : Blk (w8.alloc (.cells x3.cs.toArray 26)) w8.heap.size 26 x3.cs.toArray := Blk.new _ _ _
  clear RC hb8
  go_wp2_with fail
  go_ret
  exact ⟨rfl, HB.out _⟩
end Go.Proofs.Ytbmkfjgodgmjnaa
