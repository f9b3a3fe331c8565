/- works: a frame is made. -/
import Derived.Test.YteecgdbicokgoaaP0
namespace Go.Proofs.Yteecgdbicokgoaa
open Go.RowKit
set_option linter.unusedVariables false
set_option linter.unusedSimpArgs false
set_option maxRecDepth 100000
theorem known_one (w : World) : Calls Try.prog 57 #[.int .u32 1, .bool false] w fun e w' => e = .returned (.bool true) ∧ w = w' := by
  go_enter Try.func57, Try.ntmps57
  go_wp2
  go_ret
  exact ⟨rfl, rfl⟩
/-- A frame's cells. -/
abbrev frC (n x : Int) : List Value := [.int .u32 1, .bool false, .int .i64 n, .int .u8 x, .int .u8 0, .int .u8 0, .int .u8 0, .int .u8 0, .int .u8 0, .int .u8 0, .int .u8 0]
theorem info5s8 : (Try.prog.info? 5).map (·.size) = some 1 := by kernel_rfl
theorem copy_fr {w : World} {g q : Nat} {n : Int} (hB : Blk w g 97 (frC n 0).toArray) (hq : Blk w q 5 #[.int .u8 2]) (ty : TypeId) :
    ∃ w', (Builtin.copy_ #[22, 22] ty #[.slice (some ⟨g, 3, none⟩) 8 8, .slice (some ⟨q, 0, none⟩) 1 1]).run Try.prog w = .ok (goInt 1) w' ∧ Blk w' g 97 (frC n 2).toArray ∧ w.grownBy w' (some g) := by
  have hadd : ∀ (b o j : Nat), (⟨b, o, none⟩ : Addr).add j = ⟨b, o + j, none⟩ := fun b o j => by unfold Addr.add; split <;> simp_all
  have hr := run_copyN (P := Try.prog) w 22 22 ty 5 g 3 8 8 ⟨q, 0, none⟩ 1 1 (frC n 0).toArray 97 (u8s [2]) 1 1 Try.underlying22 info5s rfl hB rfl (fun j u hu => by rw [hadd, hq.cell]; rcases j with _ | j <;> simp_all) (by simp [frC]) (u8s_one _)
  refine ⟨_, hr, ?_, ⟨rfl, rfl, rfl, by simp, fun k _ hk => setRow_other w g k _ (fun e => hk (by rw [e]))⟩⟩
  have hs := setRow_heap w g (frC n 0).toArray (((frC n 0).toArray.toList.take 3 ++ u8s [2] ++ (frC n 0).toArray.toList.drop (3 + (u8s [2]).length)).toArray) 97 (0, 0) hB
  unfold Blk
  rw [hs]
  rfl
/-- The frame that is made. -/
def frV : Value := .agg (frC 1 2).toArray
set_option maxHeartbeats 2000000 in
theorem mk_one {w : World} {q : Nat} (hq : Blk w q 5 #[.int .u8 2]) : Calls Try.prog 33 #[.int .u32 1, .bool false, .slice (some ⟨q, 0, none⟩) 1 1] w fun e w' => e = .returned (.tuple #[frV, .int .i64 0]) ∧ Below w.heap.size w w' := by
  have hql := hq.lt
  go_enter Try.func33, Try.ntmps33
  go_upto_region 6 with (go_at_call 57; refine (known_one _).mono ?_; rintro e w' ⟨rfl, rfl⟩)
  refine wp_named fun W hW => ?_
  obtain ⟨B0, BC, hbW⟩ := blk2 (c1 := #[.int .u32 0, .bool false, .int .i64 0, .int .u8 0, .int .u8 0, .int .u8 0, .int .u8 0, .int .u8 0, .int .u8 0, .int .u8 0, .int .u8 0]) (c2 := (frC 0 0).toArray) hW
  obtain ⟨w2, hc2, BC2, hg2⟩ := copy_fr BC (hq.below hbW) 3
  have hb2 : Below w.heap.size w w2 := bel_grown hbW hg2 (by omega)
  have B02 := B0.grown hg2 (by intro e; injection e with e; omega)
  have HB := Lib.hid hb2
  have H02 := Lib.hid B02
  clear hW BC B0 hbW hg2 hb2 hq B02
  go_wp2_with (first
    | (at_builtin; refine wpList_cp _ rfl (.tmp 24) (.tmp 25) 22 22 rfl _ _ rfl rfl hc2 ?_)
    | (refine wpList_stB rfl 3 (.tmp 27) (.tmp 26) rfl (.int .i64 1) 2 rfl rfl BC2 (by simp [Value.cells, frC]) (by kernel_rfl) (by simp [Value.cells, Value.oneCell']) ?_; intro w3 B3 hg3; have B3 : Blk w3 (w.heap.size + 1) 97 (frC 1 2).toArray := B3; have B3c := B3.cell; have B03 := H02.out.grown hg3 (by intro e; injection e with e; omega))
    | (refine wpList_stB rfl 97 (.tmp 6) (.tmp 28) rfl frV 0 rfl rfl B03 (by simp [frV, frC, Value.cells]) (by kernel_rfl) (by simp [frV, frC, Value.cells, Value.oneCell']) ?_; intro w4 B4 hg4))
  have B4 : Blk w4 w.heap.size 97 (frC 1 2).toArray := B4
  have c4 := B4.cell
  refine bodyPost_ret (v := .tuple #[frV, .int .i64 0]) ?_ rfl ⟨rfl, ?_⟩
  · simp [results, Try.results33, go_sem, c4]
    rfl
  exact (bel_grown (bel_grown HB.out hg3 (by omega)) hg4 (Nat.le_refl _))
set_option maxHeartbeats 2000000 in
theorem works_any (w : World) : Calls Try.prog 7 #[] w fun e w' => e = .returned (.bool true) ∧ Below w.heap.size w w' := by
  have MK := Lib.hid (mk_one (w := w.alloc (.cells #[.int .u8 2] 5)) (Blk.new _ _ _))
  have B0 := Lib.hid (bl1 w (.cells #[.int .u8 2] 5))
  go_enter Try.func7, Try.ntmps7
  go_wp2_with fail
  refine MK.out.mono ?_
  rintro e w1 ⟨rfl, hb1⟩
  have BN := Blk.new w1 97 (frC 1 2).toArray
  have bn := BN.cell
  have HB := Lib.hid (And.intro hb1 (bl1 w1 (.cells (frC 1 2).toArray 97)))
  clear hb1 MK
  unfold frV
  go_wp2_with fail
  go_ret
  exact ⟨rfl, B0.out.trans ((HB.out.1.trans (HB.out.2.mono HB.out.1.size)).mono (by simp))⟩
end Go.Proofs.Yteecgdbicokgoaa
