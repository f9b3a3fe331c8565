/- The examples; one name by few; SymTells: the walk. -/
import Derived.Test.YtmcmlglacblkiaaY3
import Derived.Test.YtmcmlglacblkiaaY4
namespace Go.Proofs.Ytmcmlglacblkiaa
open Go.RowKit
set_option linter.unusedVariables false
set_option linter.unusedSimpArgs false
def s0 : Sy := ⟨⟨#[115]⟩, 0, 0, 1, false, false, 2, -10⟩
theorem s0_wf : s0.wf := ⟨by decide, by decide, by decide, by decide, by decide, by decide, by decide⟩
theorem s0_may : s0.may = true := by decide
theorem s0_put4 : s0.putV 4 = some [7] := by
  rw [putV_yes s0 4 ⟨s0_may, by decide, by decide, by decide, by decide⟩]
  rfl
theorem s0_put5 : s0.putV 5 = none := putV_no s0 5 fun h => absurd h.2.2.2.1 (by decide)
theorem s0_take : s0.takeV [7] = (4, 0) := by
  unfold Sy.takeV
  rw [s0_may]
  rfl
theorem bstr7 : bstr [7] = ⟨#[7]⟩ := by rfl
set_option maxHeartbeats 4000000 in
theorem shown18_any (w : World) : Calls Try.prog 14 #[] w fun e w' => e = .returned (.bool true) ∧ Below w.heap.size w w' := by
  have P4 : Hid (∀ W, Calls Try.prog 10 #[.agg #[.string ⟨#[115]⟩, .int .u8 0, .int .u32 0, .int .i64 1, .bool false, .bool false, .int .i32 2, .int .i32 (-10)], .int .i64 4] W (PtP W (some [7]))) := fun W => by
    have := sput_any s0 4 W s0_wf (by decide) (by decide)
    rw [s0_put4] at this
    exact this
  have P5 : Hid (∀ W, Calls Try.prog 10 #[.agg #[.string ⟨#[115]⟩, .int .u8 0, .int .u32 0, .int .i64 1, .bool false, .bool false, .int .i32 2, .int .i32 (-10)], .int .i64 5] W (PtP W none)) := fun W => by
    have := sput_any s0 5 W s0_wf (by decide) (by decide)
    rw [s0_put5] at this
    exact this
  have TK : Hid (∀ (W : World) (g : Nat), Rd W W.heap.size (some ⟨g, 0, none⟩) (u8s [7]) → Calls Try.prog 12 #[.agg #[.string ⟨#[115]⟩, .int .u8 0, .int .u32 0, .int .i64 1, .bool false, .bool false, .int .i32 2, .int .i32 (-10)], .slice (some ⟨g, 0, none⟩) 1 1] W fun e w' => e = .returned (.tuple #[.int .i64 4, .int .i64 0]) ∧ Below W.heap.size W w') := fun W g hr => by
    have := stake_any s0 (some ⟨g, 0, none⟩) 1 1 [7] W s0_wf rfl hr (by decide) (by decide) (by decide) (by decide)
    rw [s0_take] at this
    exact this
  have BX := Blk.new w 24 #[.string ⟨#[115]⟩, .int .u8 0, .int .u32 0, .int .i64 1, .bool false, .bool false, .int .i32 2, .int .i32 (-10)]
  have b7 := bstr7
  have hb0 := bl1 w (.cells #[.string ⟨#[115]⟩, .int .u8 0, .int .u32 0, .int .i64 1, .bool false, .bool false, .int .i32 2, .int .i32 (-10)] 24)
  go_enter Try.func14, Try.ntmps14
  go_wp2_with fail
  refine (P4.out _).mono ?_
  rintro e w1 ⟨A1, c1, rfl, ho1, hb1⟩
  have cT1 := (BX.below hb1).cell
  have hb2 := hb0.trans (hb1.mono hb0.size)
  go_wp2_with fail
  refine (P5.out _).mono ?_
  rintro e w2 ⟨rfl, hb3⟩
  have BX2 := (BX.below hb1).below hb3
  have cT2 := BX2.cell
  have hb4 := hb2.trans (hb3.mono hb2.size)
  have hz4 := hb4.size
  have ho2 := ho1.below hb3
  go_wp2_with fail
  refine (TK.out _ _ ((Blk.new w2 5 (u8s [7]).toArray).rd)).mono ?_
  rintro e w3 ⟨rfl, hb5⟩
  have hb6 := (hb4.alloc hz4 (.cells #[.int .u8 7] 5)).trans (hb5.mono (hb4.alloc hz4 _).size)
  have cv := ((ho2.alloc (.cells #[.int .u8 7] 5)).below hb5).conv (P := Try.prog) (src := 25) (dst := 9) (e := 5) Try.underlying25 Try.underlying5 Try.underlying9 (xs := [7]) (n := 1) rfl w3 (Below.refl _ _)
  rw [b7] at cv
  go_wp2_with fail
  go_ret
  exact ⟨rfl, hb6⟩
def OneP (w : World) (s : Sy) (e : Ending) (w' : World) : Prop := ∃ b o c, e = .returned (.slice (some ⟨b, o, none⟩) 1 c) ∧ (∀ i v, (cut s).cs[i]? = some v → w'.cell? ⟨b, o + i, none⟩ = some v) ∧ Below w.heap.size w w'
/-- few of one name. -/
theorem few_one (s : Sy) (h : s.wf) (W : World) (g : Nat) (hg : Blk W g 24 s.cs) : Calls Try.prog 9 #[.slice (some ⟨g, 0, none⟩) 1 1] W (OneP W s) := by
  refine (few_any (some ⟨g, 0, none⟩) 1 1 [s] W rfl (Blk.rd (cs := cellsS [s]) hg) (by decide) (fun t ht => by simp only [List.mem_singleton] at ht; subst ht; exact h)).mono ?_
  rintro e w' ⟨A, m, c, rfl, hm, ho, hb⟩
  obtain rfl : m = 1 := hm
  obtain ⟨b, o, rfl⟩ := ho.at_ (by decide)
  refine ⟨b, o, c, rfl, fun i v hv => ?_, hb⟩
  have := ho.cells (0 * 8 + i) v (cellsS_get (fewS [s]) 0 (cut s) rfl i v hv)
  rwa [show 0 * 8 + i = i by omega] at this
theorem cut_wf (s : Sy) (h : s.wf) : (cut s).wf := by
  obtain ⟨h1, h2, h3, h4, h5, h6, h7⟩ := h
  refine ⟨?_, h2, h3, h4, h5, h6, h7⟩
  show (s.nm.extract 0 (min s.nm.size 40)).size ≤ _
  rw [ByteArray.size_extract]
  omega
end Go.Proofs.Ytmcmlglacblkiaa
