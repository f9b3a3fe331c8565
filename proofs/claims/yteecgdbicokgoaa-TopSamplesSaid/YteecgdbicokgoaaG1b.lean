/- cmd.Put: what it tells. -/
import Derived.Test.YteecgdbicokgoaaG1
import Derived.Test.YteecgdbicokgoaaG0
import Derived.Deep.RegionHeldLaw
namespace Go.Proofs.Yteecgdbicokgoaa
open Go.RowKit
set_option linter.unusedVariables false
set_option linter.unusedSimpArgs false
set_option maxRecDepth 100000
def putE (c : Cm) : Int := if fitsC c then 0 else 1
abbrev srcA (c : Cm) : List Value := [.int .u8 c.a0, .int .u8 c.a1, .int .u8 c.a2, .int .u8 c.a3, .int .u8 c.a4]
theorem srcA_one (c : Cm) (s : Nat) : ∀ v ∈ (srcA c).take s, v.oneCell' = true := fun v hv => by
  have := List.mem_of_mem_take hv
  simp only [srcA, List.mem_cons, List.not_mem_nil, or_false] at this
  rcases this with rfl | rfl | rfl | rfl | rfl <;> rfl
theorem srcA_u8 (c : Cm) (s : Nat) : ([.int .u8 c.code] : List Value) ++ (srcA c).take s = u8s (c.code :: [c.a0, c.a1, c.a2, c.a3, c.a4].take s) := by
  simp [List.map_take]
set_option maxHeartbeats 4000000 in
theorem putc_any (c : Cm) (bs : List Int) (w : World) (hc : c.wf) (hl : bs.length = c.bn) (h10 : c.bn ≤ 1000) (hr : Rd w w.heap.size c.bA (u8s bs)) : Calls Try.prog 53 #[c.val] w (PutCP w (putE c)) := by
  have FT := Lib.hid (fun w => fits_any c w hc)
  have SH := Lib.hid (fun w => shape_any c.code hc.k0 hc.k1 w)
  have hle := shp_le c.code
  obtain ⟨⟨s, gr, b, ok⟩, hS⟩ : ∃ z, shp c.code = z := ⟨_, rfl⟩
  rw [hS] at hle
  have SH : Hid (∀ w : World, Calls Try.prog 74 #[.int .u8 c.code] w fun e w' => e = .returned (.tuple #[.int .i64 s, .bool gr, .int .i64 b, .bool ok]) ∧ w = w') := Lib.hid fun w => by have := SH.out w; unfold shpV at this; rw [hS] at this; exact this
  have hs5 : s ≤ 5 := hle.1
  have hsI : (s : Int) ≤ 5 := by omega
  have hE : putE c = if fitsC c then 0 else 1 := rfl
  obtain ⟨E, hE'⟩ : ∃ E, putE c = E := ⟨_, rfl⟩
  rw [hE'] at hE ⊢
  obtain ⟨ft, hft⟩ : ∃ ft, fitsC c = ft := ⟨_, rfl⟩
  rw [hft] at FT hE
  have HR := Lib.hid hr
  have HL := Lib.hid hl
  have hw0 := hc.w0
  have hw1 := hc.w1
  clear hS hle hE' hft hr hl
  go_enter Try.func53, Try.ntmps53
  go_upto_region 1 with fail
  refine wp_named fun W hW => ?_
  obtain ⟨BC, hbW⟩ := blk1 (c1 := c.cs.toArray) hW
  clear hW
  have bc0 := BC.cell
  cases ft with
  | false =>
    obtain rfl : E = 1 := hE
    go_wp2_with fail
    refine (FT.out _).mono ?_
    rintro e w1 ⟨rfl, b1⟩
    go_wp2_with fail
    go_ret2
    exact ⟨_, rfl, hbW.trans (b1.mono hbW.size)⟩
  | true =>
    obtain rfl : E = 0 := hE
    go_wp2_with fail
    refine (FT.out _).mono ?_
    rintro e w1 ⟨rfl, b1⟩
    have hb1 := hbW.trans (b1.mono hbW.size)
    have BC1 := BC.below b1
    have bc1 := BC1.cell
    clear bc0 BC hbW b1
    go_wp2_with fail
    refine (SH.out _).mono ?_
    rintro e w' ⟨rfl, rfl⟩
    have RC := BC1.rule
    have HRS : Hid (∀ w', Below w1.heap.size w1 w' → Rd w' w1.heap.size (some ⟨w.heap.size, 1, none⟩) ((srcA c).take s)) := Lib.hid fun w' hb _ => ⟨w.heap.size, 1, rfl, BC1.lt, fun i u hu => by
      have hc := (BC1.below hb).cell (1 + i)
      rw [hc]
      rw [List.getElem?_take] at hu
      split at hu
      · rcases (by omega : i = 0 ∨ i = 1 ∨ i = 2 ∨ i = 3 ∨ i = 4) with rfl | rfl | rfl | rfl | rfl <;> simpa using hu
      · cases hu⟩
    have hls : ((srcA c).take s).length = s * 1 := by rw [List.length_take]; simp; omega
    have HLS := Lib.hid hls
    have fr1 : Own (w1.alloc (.cells #[.int .u8 c.code] 5)) w1.heap.size 5 1 (some ⟨w1.heap.size, 0, none⟩) 1 1 [.int .u8 c.code] := Own.made (e := 5) (size := 1) w1 (Nat.le_refl _) #[.int .u8 c.code] 1 1 (by decide) (by decide) rfl
    have FR := Lib.hid fr1
    clear hls fr1
    go_wp2_with fail
    go_region_held_law (fun w' => Below w1.heap.size w1 w') (first | exact (Below.refl _ _).drew | exact ((Below.refl _ _).alloc (Nat.le_refl _) _).drew | exact Below.alloc (by assumption) (Below.size (by assumption)) _ | exact hb5 | assumption)
      (first
        | (refine step_app _ rfl (.tmp 24) (.tmp 27) 22 rfl w1.heap.size 5 (.int .u8 0) 1 1 Try.underlying22 info5 rfl (by decide) _ 1 1 [.int .u8 c.code] rfl FR.out.drew _ _ s _ ((srcA c).take s) rfl HLS.out (HRS.out _ ((Below.refl _ _).alloc (Nat.le_refl _) _).drew) (srcA_one c s) (by unfold maxLen; omega) (by omega) (by simp) ?_; intro A5 c5 w5 ho5 hg5 hbk5; have hb5 : Below w1.heap.size w1 w5 := bel_app ((Below.refl _ _).alloc (Nat.le_refl _) _).drew FR.out.drew (Nat.le_refl _) hg5))
    rw [srcA_u8] at ho5
    have hbx := hb1.trans (hb5.mono hb1.size)
    have r5 := (BC1.below hb5).cell
    have HRb := HR.out.bel hbx
    have hz5 := hb5.size
    have hz1 := hb1.size
    have hlx : (c.code :: [c.a0, c.a1, c.a2, c.a3, c.a4].take s).length = 1 + s := by rw [List.length_cons, List.length_take]; simp; omega
    cases gr with
    | false =>
      go_wp2_with (at_builtin; refine wpList_app _ rfl (.tmp 42) (.tmp 44) 22 rfl w1.heap.size 5 (.int .u8 0) 1 1 Try.underlying22 info5 rfl (by decide) A5 (1 + s) c5 _ rfl ho5 _ c.bA c.bn c.bc (u8s bs) rfl (by simp [HL.out]) HRb (u8s_one _) (by unfold maxLen; omega) (by omega) hz5 ?_; intro A6 c6 w6 ho6 hg6 hbk6)
      go_ret2
      exact ⟨_, rfl, bel_app hbx (ho5.more hz1) (Nat.le_refl _) hg6⟩
    | true =>
      have PT := Lib.hid (put_any A5 (1 + s) c5 (c.code :: [c.a0, c.a1, c.a2, c.a3, c.a4].take s) c.w 4 true w5 rfl hlx (ho5.rd) (by omega) hw0 (by omega))
      go_wp2_with fail
      refine PT.out.mono ?_
      rintro e w6 ⟨A6, c6, rfl, ho6, b6⟩
      have hb6 := hbx.trans (b6.mono hbx.size)
      have r6 := ((BC1.below hb5).below b6).cell
      have HR6 := HR.out.bel hb6
      have hl6 : (c.code :: [c.a0, c.a1, c.a2, c.a3, c.a4].take s ++ putB c.w 4 true).length = 5 + s := by rw [List.length_append, hlx, putB_len]; omega
      have hz6 := b6.size
      rw [hl6] at ho6 ⊢
      clear PT r5 HRb hl6
      go_wp2_with (at_builtin; refine wpList_app _ rfl (.tmp 42) (.tmp 44) 22 rfl w5.heap.size 5 (.int .u8 0) 1 1 Try.underlying22 info5 rfl (by decide) A6 (5 + s) c6 _ rfl ho6 _ c.bA c.bn c.bc (u8s bs) rfl (by simp [HL.out]) HR6 (u8s_one _) (by unfold maxLen; omega) (by omega) hz6 ?_; intro A7 c7 w7 ho7 hg7 hbk7)
      go_ret2
      exact ⟨_, rfl, bel_app hb6 (ho6.more hbx.size) (Nat.le_refl _) hg7⟩
end Go.Proofs.Yteecgdbicokgoaa
