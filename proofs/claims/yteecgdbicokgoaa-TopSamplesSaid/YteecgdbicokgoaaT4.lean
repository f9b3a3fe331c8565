/- split.Lay: its closures. -/
import Derived.Test.YteecgdbicokgoaaT3
import Derived.Test.YteecgdbicokgoaaT1
import Derived.Test.YteecgdbicokgoaaP0
import Derived.Test.YteecgdbicokgoaaGrow
namespace Go.Proofs.Yteecgdbicokgoaa
open Go.RowKit
set_option linter.unusedVariables false
set_option linter.unusedSimpArgs false
set_option maxRecDepth 100000
theorem info35L : (Try.prog.info? 35).map (fun i => (i.zero, i.size, i.bytes)) = some (some (.agg #[.int .u8 0, .int .u8 0, .int .u8 0, .int .u8 0, .int .u8 0, .int .u8 0, .int .u32 0, .slice none 0 0]), 8, 40) := by kernel_rfl
/-- A command of no bytes. -/
def Cm.bare (x : Cm) : Prop := x.wf ∧ x.bA = none ∧ x.bn = 0 ∧ x.bc = 0
abbrev cmsC (l : List Cm) : List Value := flatC Cm.cs l
theorem cmsC_snoc (l : List Cm) (x : Cm) : cmsC (l ++ [x]) = cmsC l ++ x.cs := by
  unfold cmsC
  rw [flatC_app]
  simp [flatC]
theorem cms_one (l : List Cm) : ∀ v ∈ cmsC l, v.oneCell' = true := by
  induction l with
  | nil => intro v hv; cases hv
  | cons t l ih =>
    intro v hv
    rcases List.mem_append.1 hv with h | h
    · simp only [Cm.cs, List.mem_cons, List.not_mem_nil, or_false] at h
      rcases h with rfl | rfl | rfl | rfl | rfl | rfl | rfl | rfl <;> rfl
    · exact ih v h
theorem cs_one (x : Cm) : ∀ v ∈ x.cs, v.oneCell' = true := by
  intro v hv
  simp only [Cm.cs, List.mem_cons, List.not_mem_nil, or_false] at hv
  rcases hv with rfl | rfl | rfl | rfl | rfl | rfl | rfl | rfl <;> rfl
theorem cmsC_len (l : List Cm) : (cmsC l).length = l.length * 8 := flatC_len Cm.cs 8 l (fun _ _ => rfl)
theorem bare_cm {k a b c d e v : Int} (hk : 0 ≤ k ∧ k < 256) (ha : 0 ≤ a ∧ a < 256) (hb : 0 ≤ b ∧ b < 256) (hc : 0 ≤ c ∧ c < 256) (hd : 0 ≤ d ∧ d < 256) (he : 0 ≤ e ∧ e < 256) (hv : 0 ≤ v ∧ v < 4294967296) : (cm k a b c d e v).bare :=
  ⟨⟨hk.1, hk.2, ha, hb, hc, hd, he, hv.1, hv.2, Nat.le_refl _, Nat.zero_le _⟩, rfl, rfl, rfl⟩
/-- The commands made so far, in the variable at go. -/
structure LSc (base go N : Nat) (w : World) (A : Option Addr) (c : Nat) (cl : List Cm) : Prop where
  b : Blk w go 36 #[.slice A cl.length c]
  gb : base ≤ go
  row : Own w base 35 8 A cl.length c (cmsC cl)
  bare : ∀ x ∈ cl, x.bare
  le : cl.length ≤ N
def LS (base go N : Nat) (w : World) : Prop := ∃ A c cl, LSc base go N w A c cl
theorem LSc.below {base go N : Nat} {w w' : World} {A : Option Addr} {c : Nat} {cl : List Cm} (h : LSc base go N w A c cl) (hb : Below w.heap.size w w') : LSc base go N w' A c cl := ⟨h.b.below hb, h.gb, h.row.below hb, h.bare, h.le⟩
theorem LS.below {base go N : Nat} {w w' : World} (h : LS base go N w) (hb : Below w.heap.size w w') : LS base go N w' := by
  obtain ⟨A, c, cl, h⟩ := h
  exact ⟨A, c, cl, h.below hb⟩
theorem LS.mono {base go N N' : Nat} {w : World} (h : LS base go N w) (hN : N ≤ N') : LS base go N' w := by
  obtain ⟨A, c, cl, h⟩ := h
  exact ⟨A, c, cl, h.b, h.gb, h.row, h.bare, Nat.le_trans h.le hN⟩
theorem chT_grown {B : Nat} {ts : List TypeId} {a w w' : World} (h : ChT B ts a w) {row : Option Nat} (hg : w.grownBy w' row) (hr : ∀ q, row = some q → B ≤ q ∧ ∃ t cs, Blk w q t cs ∧ t ∈ ts) : ChT B ts a w' :=
  h.trans ((Chg.of_grown hg).mono fun i _ hi => by
    obtain ⟨h1, t, cs, h2, h3⟩ := hr i hi.symm
    exact ⟨h1, t, cs, h2, h3⟩)
theorem LSc.push {base go N : Nat} {W w8 w9 : World} {A : Option Addr} {c : Nat} {cl : List Cm} (h : LSc base go N W A c cl) (hS : Below W.heap.size W w8) (hg : w8.grownBy w9 (blkOf A)) {y : Cm} (hy : y.bare) {A9 : Option Addr} {c9 : Nat} (ho : Own w9 base 35 8 A9 (cl.length + 1) c9 (cmsC cl ++ y.cs)) :
    LS base go (N + 1) (w9.setCell ⟨go, 0, none⟩ (.slice A9 (cl.length + 1) c9)) ∧ ChT base [36, 35] W (w9.setCell ⟨go, 0, none⟩ (.slice A9 (cl.length + 1) c9)) := by
  have h8 := h.below hS
  have hgo := own_blk_ne h8.row h8.b (by decide)
  have hB := h8.b.grown hg hgo
  have hc : ChT base [36, 35] W w9 := chT_grown (ChT.of_below hS _ _) hg fun q hq => by
    obtain ⟨cs, hcs⟩ := h8.row.row hq
    exact ⟨(h8.row.lt hq).1, 35, cs, hcs, by simp⟩
  have hl : (cl ++ [y]).length = cl.length + 1 := by simp
  refine ⟨⟨A9, c9, cl ++ [y], ?_, h.gb, ?_, ?_, ?_⟩, hc.set_ hB (by simp) h.gb _⟩
  · rw [hl]
    exact hB.set_ 0 _
  · rw [hl, cmsC_snoc]
    exact ho.far (p := ⟨go, 0, none⟩) (fun e => by
      obtain ⟨cs, hcs⟩ := ho.row e
      have := blk_ty hcs hB
      cases this) _
  · intro x hx
    rcases List.mem_append.1 hx with hx | hx
    · exact h.bare x hx
    · rw [List.mem_singleton.1 hx]; exact hy
  · rw [hl]
    have := h.le
    omega
set_option maxHeartbeats 4000000 in
theorem lay1_any {base go N : Nat} {w : World} (h : LS base go N w) (hN : N ≤ 1000) (hbase : base ≤ w.heap.size) {i k : Int} (hi : 0 ≤ i ∧ i < 256) (hk : 0 ≤ k ∧ k < 256) {A : Option Addr} {n c : Nat} (hn : n ≤ 7) :
    Calls Try.prog 65 #[.int .u8 i, .int .u8 k, .slice A n c, .pointer (some ⟨go, 0, none⟩)] w fun e w' => e = .returned (.tuple #[]) ∧ LS base go (N + 1) w' ∧ ChT base [36, 35] w w' := by
  obtain ⟨Ac, cc, cl, hL⟩ := h
  have hrule := hL.b.rule
  have hnw : IntKind.u8.wrap (n : Int) = n := IntWalk.u8_in _ (by omega)
  have hbare : (cm 21 i k n 0 0 0).bare := bare_cm (by decide) hi hk (by omega) (by decide) (by decide) (by decide)
  have HL := Lib.hid (And.intro hL hbare)
  have hle := hL.le
  obtain ⟨q, hq⟩ : ∃ q, cl.length = q := ⟨_, rfl⟩
  rw [hq] at hrule hle
  have HQ := Lib.hid hq
  clear hL hbare hq
  go_enter Try.func65, Try.ntmps65
  go_wp2_with fail
  refine wp_region_any (by kernel_rfl) ?_
  refine wpAny_g (fun w' => Below w.heap.size w w') Bel (mkG [(6, gLit w.heap.size 5 3 #[.int .u8 i, .int .u8 k, .int .u8 n]), (7, gVal (cm 21 i k n 0 0 0).val), (8, gLit w.heap.size 35 1 (cm 21 i k n 0 0 0).cs.toArray)]) [9, 10] [] (by kernel_rfl) (by kernel_rfl) (by kernel_rfl) (stays_mk _ _) (Below.refl _ _).drew ?_
  first
    | (refine wpH_skip (by rfl) (by rfl) ?_; try simp only [Act.put, List.setIfInBounds_toArray, List.set_cons_zero, List.set_cons_succ, Nat.reduceAdd])
    | (refine wpH_val (v := ?_) (by rfl) (by rfl) ?_ ?_; rotate_left; · (intro w' hS hF; go_simp; first | done | with_reducible rfl)
       try simp only [Act.put, List.setIfInBounds_toArray, List.set_cons_zero, List.set_cons_succ, Nat.reduceAdd])
  first
    | (refine wpH_skip (by rfl) (by rfl) ?_; try simp only [Act.put, List.setIfInBounds_toArray, List.set_cons_zero, List.set_cons_succ, Nat.reduceAdd])
    | (refine wpH_val (v := ?_) (by rfl) (by rfl) ?_ ?_; rotate_left; · (intro w' hS hF; go_simp; first | done | with_reducible rfl)
       try simp only [Act.put, List.setIfInBounds_toArray, List.set_cons_zero, List.set_cons_succ, Nat.reduceAdd])
  first
    | (refine wpH_skip (by rfl) (by rfl) ?_; try simp only [Act.put, List.setIfInBounds_toArray, List.set_cons_zero, List.set_cons_succ, Nat.reduceAdd])
    | (refine wpH_val (v := ?_) (by rfl) (by rfl) ?_ ?_; rotate_left; · (intro w' hS hF; go_simp; first | done | with_reducible rfl)
       try simp only [Act.put, List.setIfInBounds_toArray, List.set_cons_zero, List.set_cons_succ, Nat.reduceAdd])
  first
    | (refine wpH_skip (by rfl) (by rfl) ?_; try simp only [Act.put, List.setIfInBounds_toArray, List.set_cons_zero, List.set_cons_succ, Nat.reduceAdd])
    | (refine wpH_val (v := ?_) (by rfl) (by rfl) ?_ ?_; rotate_left; · (intro w' hS hF; go_simp; first | done | with_reducible rfl)
       try simp only [Act.put, List.setIfInBounds_toArray, List.set_cons_zero, List.set_cons_succ, Nat.reduceAdd])
  first
    | (refine wpH_skip (by rfl) (by rfl) ?_; try simp only [Act.put, List.setIfInBounds_toArray, List.set_cons_zero, List.set_cons_succ, Nat.reduceAdd])
    | (refine wpH_val (v := ?_) (by rfl) (by rfl) ?_ ?_; rotate_left; · (intro w' hS hF; go_simp; first | done | with_reducible rfl)
       try simp only [Act.put, List.setIfInBounds_toArray, List.set_cons_zero, List.set_cons_succ, Nat.reduceAdd])
  first
    | (refine wpH_skip (by rfl) (by rfl) ?_; try simp only [Act.put, List.setIfInBounds_toArray, List.set_cons_zero, List.set_cons_succ, Nat.reduceAdd])
    | (refine wpH_val (v := ?_) (by rfl) (by rfl) ?_ ?_; rotate_left; · (intro w' hS hF; go_simp; first | done | with_reducible rfl)
       try simp only [Act.put, List.setIfInBounds_toArray, List.set_cons_zero, List.set_cons_succ, Nat.reduceAdd])
  refine wpH_grow (by rfl) rfl (by rfl) (fun w' hS hF K hK => ?_) (fun g6 => ?_)
  · go_simp
    exact hK (none, w'.heap.size) _ (bl1 _ _) ⟨hS.size, Blk.new _ _ _⟩
  obtain ⟨Ag6, cg6⟩ := g6
  try dsimp only [gVal, gEmpty, gRow, gLit, gPtr]
  try simp only [Act.put, List.setIfInBounds_toArray, List.set_cons_zero, List.set_cons_succ, Nat.reduceAdd]
  refine wpH_grow (by rfl) rfl (by rfl) (fun w' hS hF K hK => ?_) (fun g7 => ?_)
  · have f6 : w.heap.size ≤ _ ∧ Blk w' _ 5 #[.int .u8 i, .int .u8 k, .int .u8 n] := hF _ _ (.head _) (needs_of (by kernel_rfl))
    go_simp
    go_wp2_with (with_reducible refine ((small_any (k := 21) (xs := [i, k, (n : Int)]) (c := 3) (n := 3) rfl (by decide) (by decide) f6.2.rd).mono ?_))
    rintro e w2 rfl hb2
    exact hK (none, 0) w2 hb2 trivial
  obtain ⟨Ag7, cg7⟩ := g7
  try dsimp only [gVal, gEmpty, gRow, gLit, gPtr]
  try simp only [Act.put, List.setIfInBounds_toArray, List.set_cons_zero, List.set_cons_succ, Nat.reduceAdd]
  refine wpH_grow (by rfl) rfl (by rfl) (fun w' hS hF K hK => ?_) (fun g8 => ?_)
  · go_simp
    exact hK (none, w'.heap.size) _ (bl1 _ _) ⟨hS.size, Blk.new _ _ _⟩
  obtain ⟨Ag8, cg8⟩ := g8
  try dsimp only [gVal, gEmpty, gRow, gLit, gPtr]
  try simp only [Act.put, List.setIfInBounds_toArray, List.set_cons_zero, List.set_cons_succ, Nat.reduceAdd]
  refine wpH_tail (by rfl) ?_
  refine wpH_tail (by rfl) ?_
  refine wpH_done (fun w8 hS hF => ?_)
  have f8 := hF _ _ (.head _)
  have f7 := hF _ _ (.tail _ (.head _))
  have f6 := hF _ _ (.tail _ (.tail _ (.head _)))
  try dsimp only [gVal, gEmpty, gRow, gLit, gPtr] at f6 f7 f8
  clear hF
  simp only [List.filterMap_cons, List.filterMap_nil, List.getElem?_toArray, List.getElem?_cons_succ, List.getElem?_cons_zero]
  have hO8 := (HL.out.1.below hS).row
  rw [HQ.out] at hO8
  have HR8 := Lib.hid (Blk.rd (cs := (cm 21 i k n 0 0 0).cs) f8.2)
  have hm1 : q + 1 ≤ maxLen := by unfold maxLen; omega
  have hm2 : (q + 1) * 40 ≤ 140737488355328 := by omega
  have hbz : base ≤ w8.heap.size := Nat.le_trans hbase hS.size
  refine wpList_app _ rfl (.tmp 7) (.tmp 15) 36 rfl base 35 _ 8 40 Try.underlying36 info35L rfl (by decide) Ac q cc _ rfl hO8 _ _ 1 1 (cm 21 i k n 0 0 0).cs rfl rfl HR8.out (cs_one _) hm1 hm2 hbz ?_
  intro A9 c9 w9 ho9 hg9 hbk9
  have hP := HL.out.1.push (A9 := A9) (c9 := c9) hS hg9 HL.out.2 (by rw [HQ.out]; exact ho9)
  rw [HQ.out] at hP
  have B9 := ((HL.out.1.below hS).b).grown hg9 (own_blk_ne hO8 (HL.out.1.below hS).b (by decide))
  have bc9 := B9.cell
  have fz9 := B9.frozen
  have HP := Lib.hid hP
  clear hP ho9 hg9 hbk9 hO8 f8 hrule hS B9
  go_wp2_with fail
  go_end0
  exact ⟨rfl, HP.out⟩
theorem small_none {w : World} {k : Int} :
    Calls Try.prog 59 #[.int .u8 k, .slice none 0 0] w fun e w' => e = .returned (cm k 0 0 0 0 0 0).val ∧ Below w.heap.size w w' := by
  have hb2 := bl2 w (.cells #[.int .u8 0, .int .u8 0, .int .u8 0, .int .u8 0, .int .u8 0, .int .u8 0, .int .u32 0, .slice none 0 0] 35) (.cells #[.int .u8 k, .int .u8 0, .int .u8 0, .int .u8 0, .int .u8 0, .int .u8 0, .int .u32 0, .slice none 0 0] 35)
  have hcp : ∀ (g : Nat) (w : World), (Builtin.copy_ #[22, 22] 3 #[.slice (some ⟨g, 1, none⟩) 5 5, .slice none 0 0]).run Try.prog w = .ok (goInt 0) w := fun g w => by kernel_rfl
  have HB := Lib.hid hb2
  clear hb2
  go_enter Try.func59, Try.ntmps59
  go_upto_region 2 with fail
  refine wp_named fun W hW => ?_
  obtain ⟨B0, BC, hbW⟩ := blk2 (c1 := #[.int .u8 0, .int .u8 0, .int .u8 0, .int .u8 0, .int .u8 0, .int .u8 0, .int .u32 0, .slice none 0 0]) (c2 := #[.int .u8 k, .int .u8 0, .int .u8 0, .int .u8 0, .int .u8 0, .int .u8 0, .int .u32 0, .slice none 0 0]) hW
  have BCc := BC.cell
  have HBW := Lib.hid hbW
  clear hW hbW BC HB
  go_wp2_with (refine wpList_stB rfl 35 (.tmp 4) (.tmp 12) rfl (cm k 0 0 0 0 0 0).val 0 rfl rfl B0 (by simp [Cm.val, Value.cells]) (by kernel_rfl) (by simp [Cm.val, Value.cells, Value.oneCell']) ?_; intro w3 B3 hg3)
  have B3 : Blk w3 w.heap.size 35 (cm k 0 0 0 0 0 0).cs.toArray := B3
  refine bodyPost_ret (v := (cm k 0 0 0 0 0 0).val) (results_cell_row Try.results59 _ w3 w.heap.size 35 _ (0, 0) _ rfl B3 Try.underlying35 rfl (by kernel_rfl)) rfl ?_
  exact ⟨rfl, bel_grown HBW.out hg3 (Nat.le_refl _)⟩
set_option maxHeartbeats 8000000 in
theorem lay2_any {base go N : Nat} {w : World} (h : LS base go N w) (hN : N ≤ 1000) (hbase : base ≤ w.heap.size) {i k : Int} (hi : 0 ≤ i ∧ i < 256) (hk : 0 ≤ k ∧ k < 256) {A : Option Addr} {n c : Nat} {es : List En} (hl : es.length = n) (hn : n ≤ 7) (hr : Rd w base A (ecells es)) (hw : ∀ e ∈ es, e.wf) :
    Calls Try.prog 66 #[.int .u8 i, .int .u8 k, .slice A n c, .pointer (some ⟨go, 0, none⟩)] w fun e w' => e = .returned (.tuple #[]) ∧ LS base go (N + 8) w' ∧ ChT base [36, 35] w w' := by
  obtain ⟨Ac, cc, cl, hL⟩ := h
  have hrule := hL.b.rule
  have hbare : (cm 22 i k 0 0 0 0).bare := bare_cm (by decide) hi hk (by decide) (by decide) (by decide) (by decide)
  have HL := Lib.hid (And.intro hL hbare)
  have HE := Lib.hid (And.intro hl (And.intro hr hw))
  have hle := hL.le
  obtain ⟨q, hq⟩ : ∃ q, cl.length = q := ⟨_, rfl⟩
  rw [hq] at hrule hle
  have HQ := Lib.hid hq
  clear hL hbare hq hl hr hw
  go_enter Try.func66, Try.ntmps66
  go_wp2_with fail
  refine wp_region_any (by kernel_rfl) ?_
  refine wpAny_g (fun w' => Below w.heap.size w w') Bel (mkG [(3, gLit w.heap.size 5 2 #[.int .u8 i, .int .u8 k]), (4, gVal (cm 22 i k 0 0 0 0).val), (5, gLit w.heap.size 35 1 (cm 22 i k 0 0 0 0).cs.toArray)]) [6, 7] [] (by kernel_rfl) (by kernel_rfl) (by kernel_rfl) (stays_mk _ _) (Below.refl _ _).drew ?_
  first
    | (refine wpH_skip (by rfl) (by rfl) ?_; try simp only [Act.put, List.setIfInBounds_toArray, List.set_cons_zero, List.set_cons_succ, Nat.reduceAdd])
    | (refine wpH_val (v := ?_) (by rfl) (by rfl) ?_ ?_; rotate_left; · (intro w' hS hF; go_simp; first | done | with_reducible rfl)
       try simp only [Act.put, List.setIfInBounds_toArray, List.set_cons_zero, List.set_cons_succ, Nat.reduceAdd])
  first
    | (refine wpH_skip (by rfl) (by rfl) ?_; try simp only [Act.put, List.setIfInBounds_toArray, List.set_cons_zero, List.set_cons_succ, Nat.reduceAdd])
    | (refine wpH_val (v := ?_) (by rfl) (by rfl) ?_ ?_; rotate_left; · (intro w' hS hF; go_simp; first | done | with_reducible rfl)
       try simp only [Act.put, List.setIfInBounds_toArray, List.set_cons_zero, List.set_cons_succ, Nat.reduceAdd])
  first
    | (refine wpH_skip (by rfl) (by rfl) ?_; try simp only [Act.put, List.setIfInBounds_toArray, List.set_cons_zero, List.set_cons_succ, Nat.reduceAdd])
    | (refine wpH_val (v := ?_) (by rfl) (by rfl) ?_ ?_; rotate_left; · (intro w' hS hF; go_simp; first | done | with_reducible rfl)
       try simp only [Act.put, List.setIfInBounds_toArray, List.set_cons_zero, List.set_cons_succ, Nat.reduceAdd])
  refine wpH_grow (by rfl) rfl (by rfl) (fun w' hS hF K hK => ?_) (fun g3 => ?_)
  · go_simp
    exact hK (none, w'.heap.size) _ (bl1 _ _) ⟨hS.size, Blk.new _ _ _⟩
  obtain ⟨Ag3, cg3⟩ := g3
  try dsimp only [gVal, gEmpty, gRow, gLit, gPtr]
  try simp only [Act.put, List.setIfInBounds_toArray, List.set_cons_zero, List.set_cons_succ, Nat.reduceAdd]
  refine wpH_grow (by rfl) rfl (by rfl) (fun w' hS hF K hK => ?_) (fun g4 => ?_)
  · have f3 : w.heap.size ≤ _ ∧ Blk w' _ 5 #[.int .u8 i, .int .u8 k] := hF _ _ (.head _) (needs_of (by kernel_rfl))
    go_simp
    go_wp2_with (with_reducible refine ((small_any (k := 22) (xs := [i, k]) (c := 2) (n := 2) rfl (by decide) (by decide) f3.2.rd).mono ?_))
    rintro e w2 rfl hb2
    exact hK (none, 0) w2 hb2 trivial
  obtain ⟨Ag4, cg4⟩ := g4
  try dsimp only [gVal, gEmpty, gRow, gLit, gPtr]
  try simp only [Act.put, List.setIfInBounds_toArray, List.set_cons_zero, List.set_cons_succ, Nat.reduceAdd]
  refine wpH_grow (by rfl) rfl (by rfl) (fun w' hS hF K hK => ?_) (fun g5 => ?_)
  · go_simp
    exact hK (none, w'.heap.size) _ (bl1 _ _) ⟨hS.size, Blk.new _ _ _⟩
  obtain ⟨Ag5, cg5⟩ := g5
  try dsimp only [gVal, gEmpty, gRow, gLit, gPtr]
  try simp only [Act.put, List.setIfInBounds_toArray, List.set_cons_zero, List.set_cons_succ, Nat.reduceAdd]
  refine wpH_tail (by rfl) ?_
  refine wpH_tail (by rfl) ?_
  refine wpH_done (fun w8 hS hF => ?_)
  have f5 := hF _ _ (.head _)
  have f4 := hF _ _ (.tail _ (.head _))
  have f3 := hF _ _ (.tail _ (.tail _ (.head _)))
  try dsimp only [gVal, gEmpty, gRow, gLit, gPtr] at f3 f4 f5
  clear hF
  simp only [List.filterMap_cons, List.filterMap_nil, List.getElem?_toArray, List.getElem?_cons_succ, List.getElem?_cons_zero]
  have hO8 := (HL.out.1.below hS).row
  rw [HQ.out] at hO8
  have HR8 := Lib.hid (Blk.rd (cs := (cm 22 i k 0 0 0 0).cs) f5.2)
  have hm1 : q + 1 ≤ maxLen := by unfold maxLen; omega
  have hm2 : (q + 1) * 40 ≤ 140737488355328 := by omega
  have hbz : base ≤ w8.heap.size := Nat.le_trans hbase hS.size
  refine wpList_app _ rfl (.tmp 9) (.tmp 14) 36 rfl base 35 _ 8 40 Try.underlying36 info35L rfl (by decide) Ac q cc _ rfl hO8 _ _ 1 1 (cm 22 i k 0 0 0 0).cs rfl rfl HR8.out (cs_one _) hm1 hm2 hbz ?_
  intro A9 c9 w9 ho9 hg9 hbk9
  have hP := HL.out.1.push (A9 := A9) (c9 := c9) hS hg9 HL.out.2 (by rw [HQ.out]; exact ho9)
  rw [HQ.out] at hP
  have B9 := ((HL.out.1.below hS).b).grown hg9 (own_blk_ne hO8 (HL.out.1.below hS).b (by decide))
  have bc9 := B9.cell
  have fz9 := B9.frozen
  have HP := Lib.hid hP
  clear hP ho9 hg9 hbk9 hO8 f5 hrule hS B9
  go_wp2_with fail
  refine wp_named fun W hW => ?_
  rw [← hW] at HP
  clear hW bc9 fz9 HL HQ hle
  go_loopw [18] (fun iv wr => ∃ j : Nat, j ≤ n ∧ iv = .int .i64 j ∧ LS base go (N + 1 + j) wr ∧ ChT base [36, 35] w wr) (fun iv _ => n - (intOf iv).toNat)
  case atStart => exact ⟨0, Nat.zero_le _, rfl, HP.out⟩
  case round =>
    obtain ⟨j, hj, rfl, hLS, hC⟩ := hrel
    clear HP
    by_cases hlt : j < n
    · have hltI : (j : Int) < n := by omega
      obtain ⟨t, ht⟩ : ∃ t, es[j]? = some t := ⟨_, List.getElem?_eq_getElem (by rw [HE.out.1]; exact hlt)⟩
      have hwt := HE.out.2.2 t (List.mem_of_getElem? ht)
      obtain ⟨g, o, rfl, -, hc⟩ := HE.out.2.1.below (hC.below hbase) (by
        intro h
        have h1 := ecells_len es
        rw [h, HE.out.1] at h1
        simp at h1
        omega)
      have e0 := hc _ _ (ecells_at ht (j := 0) rfl)
      have e1 := hc _ _ (ecells_at ht (j := 1) rfl)
      have e2 := hc _ _ (ecells_at ht (j := 2) rfl)
      rw [← Nat.add_assoc] at e0 e1 e2
      rw [Nat.add_zero] at e0
      have b1 := bl1 wr (.cells t.cs.toArray 76)
      have BZ := Blk.new wr 76 t.cs.toArray
      obtain ⟨Ac, cc, cl, hL⟩ := hLS.below b1
      have hC1 := hC.grow b1
      have hbare : (cm 23 t.size t.area 0 0 0 t.pl).bare := bare_cm (by decide) ⟨hwt.s0, hwt.s1⟩ ⟨hwt.a0, hwt.a1⟩ (by decide) (by decide) (by decide) ⟨hwt.p0, hwt.p1⟩
      obtain ⟨z, ar, pl⟩ := t
      simp only at e0 e1 e2 hbare
      have HL := Lib.hid (And.intro hL hbare)
      have HC1 := Lib.hid hC1
      have hle := hL.le
      obtain ⟨q, hq⟩ : ∃ q, cl.length = q := ⟨_, rfl⟩
      rw [hq] at hle
      have HQ := Lib.hid hq
      obtain ⟨gz, hgz⟩ : ∃ gz, wr.heap.size = gz := ⟨_, rfl⟩
      rw [hgz] at BZ
      have HGZ := Lib.hid hgz
      have HBZ := Lib.hid BZ
      have hbase' : base ≤ wr.heap.size := Nat.le_trans hbase hC.size
      have bz := BZ.cell
      clear ht hwt hc hLS hC hC1 b1 BZ hbare hq hL
      go_upto_region 4 with fail
      refine wp_named fun W4 hW4 => ?_
      try rw [hgz]
      rw [← hW4] at HL HC1 HBZ
      have hbase4 : base ≤ W4.heap.size := by rw [hW4, World.size_alloc]; omega
      clear hW4 e0 e1 e2 bz hgz hbase'
      have hrule := HL.out.1.b.rule
      rw [HQ.out] at hrule
      have bz := HBZ.out.rule
      go_wp2_with fail
      refine wp_region_any (by kernel_rfl) ?_
      refine wpAny_g (fun w' => Below W4.heap.size W4 w') Bel (mkG [(7, gLit W4.heap.size 5 2 #[.int .u8 z, .int .u8 ar]), (8, gVal (cm 23 z ar 0 0 0 pl).val), (9, gLit W4.heap.size 35 1 (cm 23 z ar 0 0 0 pl).cs.toArray)]) [10, 11] [] (by kernel_rfl) (by kernel_rfl) (by kernel_rfl) (stays_mk _ _) (Below.refl _ _).drew ?_
      first
        | (refine wpH_skip (by rfl) (by rfl) ?_; try simp only [Act.put, List.setIfInBounds_toArray, List.set_cons_zero, List.set_cons_succ, Nat.reduceAdd])
        | (refine wpH_val (v := ?_) (by rfl) (by rfl) ?_ ?_; rotate_left; · (intro w' hS hF; go_simp; first | done | with_reducible rfl)
           try simp only [Act.put, List.setIfInBounds_toArray, List.set_cons_zero, List.set_cons_succ, Nat.reduceAdd])
      first
        | (refine wpH_skip (by rfl) (by rfl) ?_; try simp only [Act.put, List.setIfInBounds_toArray, List.set_cons_zero, List.set_cons_succ, Nat.reduceAdd])
        | (refine wpH_val (v := ?_) (by rfl) (by rfl) ?_ ?_; rotate_left; · (intro w' hS hF; go_simp; first | done | with_reducible rfl)
           try simp only [Act.put, List.setIfInBounds_toArray, List.set_cons_zero, List.set_cons_succ, Nat.reduceAdd])
      first
        | (refine wpH_skip (by rfl) (by rfl) ?_; try simp only [Act.put, List.setIfInBounds_toArray, List.set_cons_zero, List.set_cons_succ, Nat.reduceAdd])
        | (refine wpH_val (v := ?_) (by rfl) (by rfl) ?_ ?_; rotate_left; · (intro w' hS hF; go_simp; first | done | with_reducible rfl)
           try simp only [Act.put, List.setIfInBounds_toArray, List.set_cons_zero, List.set_cons_succ, Nat.reduceAdd])
      first
        | (refine wpH_skip (by rfl) (by rfl) ?_; try simp only [Act.put, List.setIfInBounds_toArray, List.set_cons_zero, List.set_cons_succ, Nat.reduceAdd])
        | (refine wpH_val (v := ?_) (by rfl) (by rfl) ?_ ?_; rotate_left; · (intro w' hS hF; go_simp; first | done | with_reducible rfl)
           try simp only [Act.put, List.setIfInBounds_toArray, List.set_cons_zero, List.set_cons_succ, Nat.reduceAdd])
      first
        | (refine wpH_skip (by rfl) (by rfl) ?_; try simp only [Act.put, List.setIfInBounds_toArray, List.set_cons_zero, List.set_cons_succ, Nat.reduceAdd])
        | (refine wpH_val (v := ?_) (by rfl) (by rfl) ?_ ?_; rotate_left; · (intro w' hS hF; go_simp; first | done | with_reducible rfl)
           try simp only [Act.put, List.setIfInBounds_toArray, List.set_cons_zero, List.set_cons_succ, Nat.reduceAdd])
      first
        | (refine wpH_skip (by rfl) (by rfl) ?_; try simp only [Act.put, List.setIfInBounds_toArray, List.set_cons_zero, List.set_cons_succ, Nat.reduceAdd])
        | (refine wpH_val (v := ?_) (by rfl) (by rfl) ?_ ?_; rotate_left; · (intro w' hS hF; go_simp; first | done | with_reducible rfl)
           try simp only [Act.put, List.setIfInBounds_toArray, List.set_cons_zero, List.set_cons_succ, Nat.reduceAdd])
      first
        | (refine wpH_skip (by rfl) (by rfl) ?_; try simp only [Act.put, List.setIfInBounds_toArray, List.set_cons_zero, List.set_cons_succ, Nat.reduceAdd])
        | (refine wpH_val (v := ?_) (by rfl) (by rfl) ?_ ?_; rotate_left; · (intro w' hS hF; go_simp; first | done | with_reducible rfl)
           try simp only [Act.put, List.setIfInBounds_toArray, List.set_cons_zero, List.set_cons_succ, Nat.reduceAdd])
      refine wpH_grow (by rfl) rfl (by rfl) (fun w' hS hF K hK => ?_) (fun g7 => ?_)
      · go_simp
        exact hK (none, w'.heap.size) _ (bl1 _ _) ⟨hS.size, Blk.new _ _ _⟩
      obtain ⟨Ag7, cg7⟩ := g7
      try dsimp only [gVal, gEmpty, gRow, gLit, gPtr]
      try simp only [Act.put, List.setIfInBounds_toArray, List.set_cons_zero, List.set_cons_succ, Nat.reduceAdd]
      refine wpH_grow (by rfl) rfl (by rfl) (fun w' hS hF K hK => ?_) (fun g8 => ?_)
      · have f7 : W4.heap.size ≤ _ ∧ Blk w' _ 5 #[.int .u8 z, .int .u8 ar] := hF _ _ (.head _) (needs_of (by kernel_rfl))
        go_simp
        go_wp2_with (with_reducible refine ((great_any (k := 23) (v := pl) (xs := [z, ar]) (c := 2) (n := 2) rfl (by decide) (by decide) f7.2.rd).mono ?_))
        rintro e w2 rfl hb2
        exact hK (none, 0) w2 hb2 trivial
      obtain ⟨Ag8, cg8⟩ := g8
      try dsimp only [gVal, gEmpty, gRow, gLit, gPtr]
      try simp only [Act.put, List.setIfInBounds_toArray, List.set_cons_zero, List.set_cons_succ, Nat.reduceAdd]
      refine wpH_grow (by rfl) rfl (by rfl) (fun w' hS hF K hK => ?_) (fun g9 => ?_)
      · go_simp
        exact hK (none, w'.heap.size) _ (bl1 _ _) ⟨hS.size, Blk.new _ _ _⟩
      obtain ⟨Ag9, cg9⟩ := g9
      try dsimp only [gVal, gEmpty, gRow, gLit, gPtr]
      try simp only [Act.put, List.setIfInBounds_toArray, List.set_cons_zero, List.set_cons_succ, Nat.reduceAdd]
      refine wpH_tail (by rfl) ?_
      refine wpH_tail (by rfl) ?_
      refine wpH_done (fun w8 hS hF => ?_)
      have f9 := hF _ _ (.head _)
      have f8 := hF _ _ (.tail _ (.head _))
      have f7 := hF _ _ (.tail _ (.tail _ (.head _)))
      try dsimp only [gVal, gEmpty, gRow, gLit, gPtr] at f7 f8 f9
      clear hF
      simp only [List.filterMap_cons, List.filterMap_nil, List.getElem?_toArray, List.getElem?_cons_succ, List.getElem?_cons_zero]
      have hO8 := (HL.out.1.below hS).row
      rw [HQ.out] at hO8
      have HR8 := Lib.hid (Blk.rd (cs := (cm 23 z ar 0 0 0 pl).cs) f9.2)
      have hm1 : q + 1 ≤ maxLen := by unfold maxLen; omega
      have hm2 : (q + 1) * 40 ≤ 140737488355328 := by omega
      have hbz : base ≤ w8.heap.size := Nat.le_trans hbase4 hS.size
      refine wpList_app _ rfl (.tmp 22) (.tmp 31) 36 rfl base 35 _ 8 40 Try.underlying36 info35L rfl (by decide) Ac q cc _ rfl hO8 _ _ 1 1 (cm 23 z ar 0 0 0 pl).cs rfl rfl HR8.out (cs_one _) hm1 hm2 hbz ?_
      intro A9 c9 w9 ho9 hg9 hbk9
      have hP := HL.out.1.push (A9 := A9) (c9 := c9) hS hg9 HL.out.2 (by rw [HQ.out]; exact ho9)
      rw [HQ.out] at hP
      have B9 := ((HL.out.1.below hS).b).grown hg9 (own_blk_ne hO8 (HL.out.1.below hS).b (by decide))
      have bc9 := B9.cell
      have fz9 := B9.frozen
      have HP := Lib.hid hP
      clear hP ho9 hg9 hbk9 hO8 f9 hrule hS B9
      have hlt1 : N + 1 + j + 1 = N + 1 + (j + 1) := by omega
      have hCC := Lib.hid (HC1.out.trans HP.out.2)
      have hLL := Lib.hid HP.out.1
      rw [hlt1] at hLL
      clear HP HL HC1 HBZ HQ hle HR8 bz hlt1
      go_wp2_with fail
      go_roundw
      case rel => exact ⟨j + 1, by omega, by go_num, hLL.out, hCC.out⟩
      case measure => simp [intOf]; omega
    · obtain rfl : j = n := by omega
      have HF := Lib.hid (And.intro (hLS.mono (show N + 1 + j ≤ N + 8 by omega)) hC)
      clear hLS hC
      go_wp2_with fail
      go_end0
      exact ⟨rfl, HF.out⟩
end Go.Proofs.Yteecgdbicokgoaa
