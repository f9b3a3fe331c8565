/- works: a frame is made. TopSamples: what comes in, opened. -/
import Derived.Test.YteecgdbicokgoaaP0
import Derived.Test.YteecgdbicokgoaaT7
import Derived.Test.YteecgdbicokgoaaRow
namespace Go.Proofs.Yteecgdbicokgoaa
open Go.RowKit
set_option linter.unusedVariables false
set_option linter.unusedSimpArgs false
set_option maxRecDepth 100000
theorem known_one (w : World) : Calls Try.prog 57 #[.int .u32 1, .bool false] w fun e w' => e = .returned (.bool true) ∧ w = w' := by
  go_enter Try.func57, Try.ntmps57
  go_wp2
  go_ret
  exact ⟨rfl, rfl⟩
/-- A frame's cells. -/
abbrev frC (n x : Int) : List Value := [.int .u32 1, .bool false, .int .i64 n, .int .u8 x, .int .u8 0, .int .u8 0, .int .u8 0, .int .u8 0, .int .u8 0, .int .u8 0, .int .u8 0]
theorem info5s8 : (Try.prog.info? 5).map (·.size) = some 1 := by kernel_rfl
theorem copy_fr {w : World} {g q : Nat} {n : Int} (hB : Blk w g 97 (frC n 0).toArray) (hq : Blk w q 5 #[.int .u8 2]) (ty : TypeId) :
    ∃ w', (Builtin.copy_ #[22, 22] ty #[.slice (some ⟨g, 3, none⟩) 8 8, .slice (some ⟨q, 0, none⟩) 1 1]).run Try.prog w = .ok (goInt 1) w' ∧ Blk w' g 97 (frC n 2).toArray ∧ w.grownBy w' (some g) := by
  have hadd : ∀ (b o j : Nat), (⟨b, o, none⟩ : Addr).add j = ⟨b, o + j, none⟩ := fun b o j => by unfold Addr.add; split <;> simp_all
  have hr := run_copyN (P := Try.prog) w 22 22 ty 5 g 3 8 8 ⟨q, 0, none⟩ 1 1 (frC n 0).toArray 97 (u8s [2]) 1 1 Try.underlying22 info5s rfl hB rfl (fun j u hu => by rw [hadd, hq.cell]; rcases j with _ | j <;> simp_all) (by simp [frC]) (u8s_one _)
  refine ⟨_, hr, ?_, ⟨rfl, rfl, rfl, by simp, fun k _ hk => setRow_other w g k _ (fun e => hk (by rw [e]))⟩⟩
  have hs := setRow_heap w g (frC n 0).toArray (((frC n 0).toArray.toList.take 3 ++ u8s [2] ++ (frC n 0).toArray.toList.drop (3 + (u8s [2]).length)).toArray) 97 (0, 0) hB
  unfold Blk
  rw [hs]
  rfl
/-- The frame that is made. -/
def frV : Value := .agg (frC 1 2).toArray
set_option maxHeartbeats 2000000 in
theorem mk_one {w : World} {q : Nat} (hq : Blk w q 5 #[.int .u8 2]) : Calls Try.prog 33 #[.int .u32 1, .bool false, .slice (some ⟨q, 0, none⟩) 1 1] w fun e w' => e = .returned (.tuple #[frV, .int .i64 0]) ∧ Below w.heap.size w w' := by
  have hql := hq.lt
  go_enter Try.func33, Try.ntmps33
  go_upto_region 6 with (go_at_call 57; refine (known_one _).mono ?_; rintro e w' ⟨rfl, rfl⟩)
  refine wp_named fun W hW => ?_
  obtain ⟨B0, BC, hbW⟩ := blk2 (c1 := #[.int .u32 0, .bool false, .int .i64 0, .int .u8 0, .int .u8 0, .int .u8 0, .int .u8 0, .int .u8 0, .int .u8 0, .int .u8 0, .int .u8 0]) (c2 := (frC 0 0).toArray) hW
  obtain ⟨w2, hc2, BC2, hg2⟩ := copy_fr BC (hq.below hbW) 3
  have hb2 : Below w.heap.size w w2 := bel_grown hbW hg2 (by omega)
  have B02 := B0.grown hg2 (by intro e; injection e with e; omega)
  have HB := Lib.hid hb2
  have H02 := Lib.hid B02
  clear hW BC B0 hbW hg2 hb2 hq B02
  go_wp2_with (first
    | (at_builtin; refine wpList_cp _ rfl (.tmp 24) (.tmp 25) 22 22 rfl _ _ rfl rfl hc2 ?_)
    | (refine wpList_stB rfl 3 (.tmp 27) (.tmp 26) rfl (.int .i64 1) 2 rfl rfl BC2 (by simp [Value.cells, frC]) (by kernel_rfl) (by simp [Value.cells, Value.oneCell']) ?_; intro w3 B3 hg3; have B3 : Blk w3 (w.heap.size + 1) 97 (frC 1 2).toArray := B3; have B3c := B3.cell; have B03 := H02.out.grown hg3 (by intro e; injection e with e; omega))
    | (refine wpList_stB rfl 97 (.tmp 6) (.tmp 28) rfl frV 0 rfl rfl B03 (by simp [frV, frC, Value.cells]) (by kernel_rfl) (by simp [frV, frC, Value.cells, Value.oneCell']) ?_; intro w4 B4 hg4))
  have B4 : Blk w4 w.heap.size 97 (frC 1 2).toArray := B4
  have c4 := B4.cell
  refine bodyPost_ret (v := .tuple #[frV, .int .i64 0]) ?_ rfl ⟨rfl, ?_⟩
  · simp [results, Try.results33, go_sem, c4]
    rfl
  exact (bel_grown (bel_grown HB.out hg3 (by omega)) hg4 (Nat.le_refl _))
set_option maxHeartbeats 2000000 in
theorem works_any (w : World) : Calls Try.prog 7 #[] w fun e w' => e = .returned (.bool true) ∧ Below w.heap.size w w' := by
  have MK := Lib.hid (mk_one (w := w.alloc (.cells #[.int .u8 2] 5)) (Blk.new _ _ _))
  have B0 := Lib.hid (bl1 w (.cells #[.int .u8 2] 5))
  go_enter Try.func7, Try.ntmps7
  go_wp2_with fail
  refine MK.out.mono ?_
  rintro e w1 ⟨rfl, hb1⟩
  have BN := Blk.new w1 97 (frC 1 2).toArray
  have bn := BN.cell
  have HB := Lib.hid (And.intro hb1 (bl1 w1 (.cells (frC 1 2).toArray 97)))
  clear hb1 MK
  unfold frV
  go_wp2_with fail
  go_ret
  exact ⟨rfl, B0.out.trans ((HB.out.1.trans (HB.out.2.mono HB.out.1.size)).mono (by simp))⟩
end Go.Proofs.Yteecgdbicokgoaa
namespace Go.Proofs.Yteecgdbicokgoaa
open Go.RowKit Go.ChangeShapes Go.WideShapes Go.ChangeAt Go.Deep
set_option linter.unusedVariables false
set_option linter.unusedSimpArgs false
set_option maxRecDepth 100000
theorem co5 : Try.prog.cellsOf 5 = 1 := by kernel_rfl
theorem co3 : Try.prog.cellsOf 3 = 1 := by kernel_rfl
theorem co4 : Try.prog.cellsOf 4 = 1 := by kernel_rfl
theorem co33 : Try.prog.cellsOf 33 = 1 := by kernel_rfl
theorem co22 : Try.prog.cellsOf 22 = 1 := by kernel_rfl
theorem co74 : Try.prog.cellsOf 74 = 1 := by kernel_rfl
theorem co69 : Try.prog.cellsOf 69 = 1 := by kernel_rfl
theorem co76 : Try.prog.cellsOf 76 = 3 := by kernel_rfl
theorem co71 : Try.prog.cellsOf 71 = 8 := by kernel_rfl
theorem fs76 : ∃ f0 f1 f2 : Field, Try.prog.underlying 76 = some (.struct #[f0, f1, f2]) ∧ (f0.type = 5 ∧ f0.offset = 0) ∧ (f1.type = 5 ∧ f1.offset = 1) ∧ f2.type = 33 ∧ f2.offset = 2 :=
  ⟨_, _, _, Try.underlying76, ⟨rfl, rfl⟩, ⟨rfl, rfl⟩, rfl, rfl⟩
theorem fs71 : ∃ f0 f1 f2 f3 f4 f5 f6 f7 : Field, Try.prog.underlying 71 = some (.struct #[f0, f1, f2, f3, f4, f5, f6, f7]) ∧ (f0.type = 3 ∧ f0.offset = 0) ∧ (f1.type = 69 ∧ f1.offset = 1) ∧ (f2.type = 4 ∧ f2.offset = 2) ∧ (f3.type = 5 ∧ f3.offset = 3) ∧ (f4.type = 5 ∧ f4.offset = 4) ∧ (f5.type = 5 ∧ f5.offset = 5) ∧ (f6.type = 4 ∧ f6.offset = 6) ∧ f7.type = 4 ∧ f7.offset = 7 :=
  ⟨_, _, _, _, _, _, _, _, Try.underlying71, ⟨rfl, rfl⟩, ⟨rfl, rfl⟩, ⟨rfl, rfl⟩, ⟨rfl, rfl⟩, ⟨rfl, rfl⟩, ⟨rfl, rfl⟩, ⟨rfl, rfl⟩, rfl, rfl⟩
section
variable {H : Type} {enc : TypeId × Value → H} {w : World} {base : Nat} {spare : Nat → Bool} {held : Bool}
theorem en_cells {fuel : Nat} {cs : List Value} {x : DataW H × List MemPlace} (h : DataW.trod enc Try.prog w base spare held fuel 76 cs = some x) : ∃ e : En, cs = e.cs ∧ e.wf := by
  obtain ⟨f0, f1, f2, hu, ⟨t0, o0⟩, ⟨t1, o1⟩, t2, o2⟩ := fs76
  obtain ⟨xs, n, -, -, hl, hlen, hf⟩ := DataW.trod_struct hu h
  rw [co76] at hl
  match cs, hl with
  | [c0, c1, c2], _ =>
    have h0 := hf 0 f0 rfl
    have h1 := hf 1 f1 rfl
    have h2 := hf 2 f2 rfl
    match xs, hlen with
    | [x0, x1, x2], _ =>
      simp only [t0, o0, co5] at h0
      simp only [t1, o1, co5] at h1
      simp only [t2, o2, co33] at h2
      obtain ⟨a, e0, -, w0⟩ := DataW.trod_int Try.underlying5 (show DataW.trod enc Try.prog w base spare held n 5 [c0] = some x0 from h0)
      obtain ⟨b, e1, -, w1⟩ := DataW.trod_int Try.underlying5 (show DataW.trod enc Try.prog w base spare held n 5 [c1] = some x1 from h1)
      obtain ⟨c, e2, -, w2⟩ := DataW.trod_int Try.underlying33 (show DataW.trod enc Try.prog w base spare held n 33 [c2] = some x2 from h2)
      simp only [List.cons.injEq, and_true] at e0 e1 e2
      subst e0 e1 e2
      exact ⟨⟨a, b, c⟩, rfl, (wf_u8 w0).1, (wf_u8 w0).2, (wf_u8 w1).1, (wf_u8 w1).2, (wf_u32 w2).1, (wf_u32 w2).2⟩
/-- A table that came in. -/
def RTb (w : World) (t : Tb) : Prop := Rd w w.heap.size t.A (ecells t.es) ∧ (∀ e ∈ t.es, e.wf) ∧ t.es.length ≤ t.c ∧ t.c ≤ maxLen
theorem tb_cells {fuel : Nat} {cs : List Value} {x : DataW H × List MemPlace} (h : DataW.trod enc Try.prog w base spare held fuel 74 cs = some x) : ∃ t : Tb, cs = t.cs ∧ RTb w t := by
  obtain ⟨A, n, c, l, h1, h2, h3, h4, h5, h6, h7⟩ := rowN En.cs En.wf 3 (by decide) Try.underlying74 co76 (fun m cs y hy => en_cells hy) (fun _ => rfl) h
  exact ⟨⟨A, c, l⟩, by rw [h1]; simp only [Tb.cs, h5], h7, h6, by simp only [h5]; exact h2, h3⟩
/-- A list that came in. -/
def RLc (w : World) (x : Lc) : Prop := (Rd w w.heap.size x.A (tcells x.tabs) ∧ x.tabs.length ≤ maxLen) ∧ (∀ t ∈ x.tabs, RTb w t) ∧ (0 ≤ x.ev ∧ x.ev < 256) ∧ (0 ≤ x.pre ∧ x.pre < 256) ∧ (0 ≤ x.pri ∧ x.pri < 256)
theorem lc_cells {fuel : Nat} {cs : List Value} {x : DataW H × List MemPlace} (h : DataW.trod enc Try.prog w base spare held fuel 71 cs = some x) : ∃ y : Lc, cs = y.cs ∧ RLc w y := by
  obtain ⟨f0, f1, f2, f3, f4, f5, f6, f7, hu, ⟨t0, o0⟩, ⟨t1, o1⟩, ⟨t2, o2⟩, ⟨t3, o3⟩, ⟨t4, o4⟩, ⟨t5, o5⟩, ⟨t6, o6⟩, t7, o7⟩ := fs71
  obtain ⟨xs, n, -, -, hl, hlen, hf⟩ := DataW.trod_struct hu h
  rw [co71] at hl
  match cs, hl with
  | [c0, c1, c2, c3, c4, c5, c6, c7], _ =>
    have h0 := hf 0 f0 rfl
    have h1 := hf 1 f1 rfl
    have h2 := hf 2 f2 rfl
    have h3 := hf 3 f3 rfl
    have h4 := hf 4 f4 rfl
    have h5 := hf 5 f5 rfl
    have h6 := hf 6 f6 rfl
    have h7 := hf 7 f7 rfl
    match xs, hlen with
    | [x0, x1, x2, x3, x4, x5, x6, x7], _ =>
      simp only [t0, o0, co3] at h0
      simp only [t1, o1, co69] at h1
      simp only [t2, o2, co4] at h2
      simp only [t3, o3, co5] at h3
      simp only [t4, o4, co5] at h4
      simp only [t5, o5, co5] at h5
      simp only [t6, o6, co4] at h6
      simp only [t7, o7, co4] at h7
      obtain ⟨a0, e0, -, w0⟩ := DataW.trod_int Try.underlying3 (show DataW.trod enc Try.prog w base spare held n 3 [c0] = some x0 from h0)
      obtain ⟨A, tn, tc, l, e1, g1, g2, g3, g4, g5, g6⟩ := rowN Tb.cs (RTb w) 1 (by decide) Try.underlying69 co74 (fun m cs y hy => tb_cells hy) (fun _ => rfl) (show DataW.trod enc Try.prog w base spare held n 69 [c1] = some x1 from h1)
      obtain ⟨a2, e2, -⟩ := DataW.trod_bool Try.underlying4 (show DataW.trod enc Try.prog w base spare held n 4 [c2] = some x2 from h2)
      obtain ⟨a3, e3, -, w3⟩ := DataW.trod_int Try.underlying5 (show DataW.trod enc Try.prog w base spare held n 5 [c3] = some x3 from h3)
      obtain ⟨a4, e4, -, w4⟩ := DataW.trod_int Try.underlying5 (show DataW.trod enc Try.prog w base spare held n 5 [c4] = some x4 from h4)
      obtain ⟨a5, e5, -, w5⟩ := DataW.trod_int Try.underlying5 (show DataW.trod enc Try.prog w base spare held n 5 [c5] = some x5 from h5)
      obtain ⟨a6, e6, -⟩ := DataW.trod_bool Try.underlying4 (show DataW.trod enc Try.prog w base spare held n 4 [c6] = some x6 from h6)
      obtain ⟨a7, e7, -⟩ := DataW.trod_bool Try.underlying4 (show DataW.trod enc Try.prog w base spare held n 4 [c7] = some x7 from h7)
      simp only [List.cons.injEq, and_true] at e0 e1 e2 e3 e4 e5 e6 e7
      subst e0 e1 e2 e3 e4 e5 e6 e7
      subst g4
      exact ⟨⟨A, tc, l, a0, a2, a3, a4, a5, a6, a7⟩, rfl, ⟨g6, Nat.le_trans g1 g2⟩, g5, wf_u8 w3, wf_u8 w4, wf_u8 w5⟩
theorem open_lists {fuel : Nat} {cs : List Value} {x : DataW H × List MemPlace} (h : DataW.trod enc Try.prog w base spare held fuel 51 cs = some x) :
    ∃ (A : Option Addr) (n c : Nat) (cl : List Lc), cs = [.slice A n c] ∧ cl.length = n ∧ n ≤ maxLen ∧ RI w A cl := by
  obtain ⟨A, n, c, l, h1, h2, h3, h4, h5, h6, h7⟩ := rowN Lc.cs (RLc w) 8 (by decide) Try.underlying51 co71 (fun m cs y hy => lc_cells hy) (fun _ => rfl) h
  exact ⟨A, n, c, l, h1, h5, Nat.le_trans h2 h3, ⟨h7, fun x hx => (h6 x hx).1, fun x hx t ht => (h6 x hx).2.1 t ht, fun x hx => (h6 x hx).2.2⟩⟩
/-- Bytes that came in. -/
structure By8 where
  A : Option Addr
  c : Nat
  n : Nat
  bs : List Int
abbrev By8.cs (b : By8) : List Value := [.slice b.A b.n b.c]
def RBy (w : World) (b : By8) : Prop := b.bs.length = b.n ∧ b.n ≤ b.c ∧ b.c ≤ maxLen ∧ Rd w w.heap.size b.A (u8s b.bs) ∧ (b.A = none → b.n = 0 ∧ b.c = 0) ∧ ∀ y ∈ b.bs, 0 ≤ y ∧ y < 256
theorem by_cells {fuel : Nat} {cs : List Value} {x : DataW H × List MemPlace} (h : DataW.trod enc Try.prog w base spare held fuel 22 cs = some x) : ∃ b : By8, cs = b.cs ∧ RBy w b := by
  obtain ⟨A, bn, bc, bs, e3, g1, g2, g3, g4, g5, g6⟩ := row_ints Try.underlying22 Try.underlying5 (by kernel_rfl) h
  exact ⟨⟨A, bc, bn, bs⟩, e3, g4, g1, g2, g5, g3, fun y hy => wf_u8 (g6 y hy)⟩
theorem open_bys {fuel : Nat} {cs : List Value} {x : DataW H × List MemPlace} (h : DataW.trod enc Try.prog w base spare held fuel 29 cs = some x) :
    ∃ (A : Option Addr) (n c : Nat) (l : List By8), cs = [.slice A n c] ∧ n ≤ c ∧ c ≤ maxLen ∧ (A = none → n = 0 ∧ c = 0) ∧ l.length = n ∧ (∀ t ∈ l, RBy w t) ∧ Rd w w.heap.size A (flatC By8.cs l) :=
  rowN By8.cs (RBy w) 1 (by decide) Try.underlying29 co22 (fun m cs y hy => by_cells hy) (fun _ => rfl) h
end
end Go.Proofs.Yteecgdbicokgoaa
