/- split: small, great, fits. -/
import Derived.Test.YteecgdbicokgoaaG1b
import Derived.Test.YteecgdbicokgoaaM3
namespace Go.Proofs.Yteecgdbicokgoaa
open Go.RowKit
set_option linter.unusedVariables false
set_option linter.unusedSimpArgs false
set_option maxRecDepth 100000
/-- A command of small numbers alone. -/
def cm (k a0 a1 a2 a3 a4 : Int) (w : Int) : Cm := ⟨k, a0, a1, a2, a3, a4, w, none, 0, 0⟩
def cmL (k : Int) (xs : List Int) (v : Int) : Cm := cm k (xs.getD 0 0) (xs.getD 1 0) (xs.getD 2 0) (xs.getD 3 0) (xs.getD 4 0) v
theorem copy_cmd {w : World} {g : Nat} {k v : Int} (hB : Blk w g 35 #[.int .u8 k, .int .u8 0, .int .u8 0, .int .u8 0, .int .u8 0, .int .u8 0, .int .u32 v, .slice none 0 0]) {A : Option Addr} {n c : Nat} {xs : List Int} (hn : xs.length = n) (h5 : n ≤ 5) (h0 : 0 < n) (hr : Rd w w.heap.size A (u8s xs)) (ty : TypeId) :
    ∃ w', (Builtin.copy_ #[22, 22] ty #[.slice (some ⟨g, 1, none⟩) 5 5, .slice A n c]).run Try.prog w = .ok (goInt n) w' ∧ Blk w' g 35 (cmL k xs v).cs.toArray ∧ w.grownBy w' (some g) := by
  have hne : u8s xs ≠ [] := fun e => by have := congrArg List.length e; simp [u8s] at this; subst this; simp at hn; omega
  obtain ⟨b, o, rfl, hb, hc⟩ := hr hne
  have hadd : ∀ (b o j : Nat), (⟨b, o, none⟩ : Addr).add j = ⟨b, o + j, none⟩ := fun b o j => by unfold Addr.add; split <;> simp_all
  have hm : Nat.min n 5 = n := Nat.min_eq_left h5
  have hr := run_copyN (P := Try.prog) w 22 22 ty 5 g 1 5 5 ⟨b, o, none⟩ n c #[.int .u8 k, .int .u8 0, .int .u8 0, .int .u8 0, .int .u8 0, .int .u8 0, .int .u32 v, .slice none 0 0] 35 (u8s xs) 1 n Try.underlying22 info5s hm hB (by simp [hn]) (fun j u hu => by rw [hadd]; exact hc j u hu) (by simp [hn]; omega) (u8s_one _)
  refine ⟨_, hr, ?_, ⟨rfl, rfl, rfl, by simp, fun k _ hk => setRow_other w g k _ (fun e => hk (by rw [e]))⟩⟩
  have hs := setRow_heap w g #[.int .u8 k, .int .u8 0, .int .u8 0, .int .u8 0, .int .u8 0, .int .u8 0, .int .u32 v, .slice none 0 0] (((#[.int .u8 k, .int .u8 0, .int .u8 0, .int .u8 0, .int .u8 0, .int .u8 0, .int .u32 v, .slice none 0 0] : Array Value).toList.take 1 ++ u8s xs ++ (#[.int .u8 k, .int .u8 0, .int .u8 0, .int .u8 0, .int .u8 0, .int .u8 0, .int .u32 v, .slice none 0 0] : Array Value).toList.drop (1 + (u8s xs).length)).toArray) 35 (0, 0) hB
  unfold Blk
  rw [hs]
  subst hn
  match xs, h5, h0 with
  | [a], _, _ => rfl
  | [a, b], _, _ => rfl
  | [a, b, c], _, _ => rfl
  | [a, b, c, d], _, _ => rfl
  | [a, b, c, d, e], _, _ => rfl
theorem small_any {w : World} {k : Int} {xs : List Int} {A : Option Addr} {n c : Nat} (hn : xs.length = n) (h5 : n ≤ 5) (h0 : 0 < n) (hr : Rd w w.heap.size A (u8s xs)) :
    Calls Try.prog 59 #[.int .u8 k, .slice A n c] w fun e w' => e = .returned (cmL k xs 0).val ∧ Below w.heap.size w w' := by
  have HR := Lib.hid hr
  clear hr
  go_enter Try.func59, Try.ntmps59
  go_upto_region 2 with fail
  refine wp_named fun W hW => ?_
  obtain ⟨B0, BC, hbW⟩ := blk2 (c1 := #[.int .u8 0, .int .u8 0, .int .u8 0, .int .u8 0, .int .u8 0, .int .u8 0, .int .u32 0, .slice none 0 0]) (c2 := #[.int .u8 k, .int .u8 0, .int .u8 0, .int .u8 0, .int .u8 0, .int .u8 0, .int .u32 0, .slice none 0 0]) hW
  obtain ⟨w2, hc2, BC2, hg2⟩ := copy_cmd (c := c) BC hn h5 h0 (HR.out.bel hbW) 3
  have hb2 : Below w.heap.size w w2 := bel_grown hbW hg2 (by omega)
  have BC2c := BC2.cell
  have B02 := B0.grown hg2 (by intro e; injection e with e; omega)
  have HB := Lib.hid hb2
  obtain ⟨y, hy⟩ : ∃ y, cmL k xs 0 = y := ⟨_, rfl⟩
  rw [hy] at BC2 BC2c
  have HY := Lib.hid hy
  have HBC := Lib.hid BC2
  clear hW BC B0 hbW hg2 hb2 BC2 HR hy
  go_wp2_with (first
    | (at_builtin; refine wpList_cp _ rfl (.tmp 9) (.tmp 10) 22 22 rfl _ _ rfl rfl hc2 ?_)
    | (refine wpList_stB rfl 35 (.tmp 4) (.tmp 12) rfl y.val 0 rfl rfl B02 (by simp [Cm.val, Value.cells]) (by kernel_rfl) (by simp [Cm.val, Value.cells, Value.oneCell']) ?_; intro w3 B3 hg3))
  have B3 : Blk w3 w.heap.size 35 y.cs.toArray := B3
  refine bodyPost_ret (v := y.val) (results_cell_row Try.results59 _ w3 w.heap.size 35 _ (0, 0) _ rfl B3 Try.underlying35 rfl (by kernel_rfl)) rfl ?_
  exact ⟨by rw [HY.out], bel_grown HB.out hg3 (Nat.le_refl _)⟩
theorem great_any {w : World} {k v : Int} {xs : List Int} {A : Option Addr} {n c : Nat} (hn : xs.length = n) (h5 : n ≤ 5) (h0 : 0 < n) (hr : Rd w w.heap.size A (u8s xs)) :
    Calls Try.prog 38 #[.int .u8 k, .int .u32 v, .slice A n c] w fun e w' => e = .returned (cmL k xs v).val ∧ Below w.heap.size w w' := by
  have hb0 := bl1 w (.cells #[.int .u8 0, .int .u8 0, .int .u8 0, .int .u8 0, .int .u8 0, .int .u8 0, .int .u32 0, .slice none 0 0] 35)
  have B0 := Blk.new w 35 #[.int .u8 0, .int .u8 0, .int .u8 0, .int .u8 0, .int .u8 0, .int .u8 0, .int .u32 0, .slice none 0 0]
  have SM := Lib.hid (small_any (k := k) (c := c) hn h5 h0 (hr.bel hb0))
  have HB0 := Lib.hid hb0
  have H0 := Lib.hid B0
  obtain ⟨y, hy⟩ : ∃ y, cmL k xs 0 = y := ⟨_, rfl⟩
  have hyv : cmL k xs v = { y with w := v } := by rw [← hy]; rfl
  rw [hy] at SM
  rw [hyv]
  clear hr hb0 B0 hy hyv
  go_enter Try.func38, Try.ntmps38
  go_wp2_with fail
  refine SM.out.mono ?_
  rintro e w1 ⟨rfl, hb1⟩
  have B1 := H0.out.below hb1
  have BC := Blk.new w1 35 y.cs.toArray
  have hbc := bl1 w1 (.cells y.cs.toArray 35)
  have HB := Lib.hid (HB0.out.trans ((hb1.trans (hbc.mono hb1.size)).mono HB0.out.size))
  have B1c := Lib.hid (B1.below hbc)
  have hne : w1.heap.size ≠ w.heap.size := by have := B1.lt; omega
  have hlt1 := Lib.hid B1.lt
  clear B1 hbc SM H0 HB0 hb1
  go_wp2_with (first
    | (refine wpList_stB rfl 33 (.tmp 12) (.tmp 11) rfl (.int .u32 v) 6 rfl rfl BC (by simp [Value.cells]) (by kernel_rfl) (by simp [Value.cells, Value.oneCell']) ?_; intro w2 B2 hg2; have B2 : Blk w2 w1.heap.size 35 ({ y with w := v } : Cm).cs.toArray := B2; have b2 := B2.cell; have B02 := B1c.out.grown hg2 (by intro e; injection e with e; exact hne e.symm))
    | (refine wpList_stB rfl 35 (.tmp 6) (.tmp 13) rfl ({ y with w := v } : Cm).val 0 rfl rfl B02 (by simp [Cm.val, Value.cells]) (by kernel_rfl) (by simp [Cm.val, Value.cells, Value.oneCell']) ?_; intro w3 B3 hg3))
  have B3 : Blk w3 w.heap.size 35 ({ y with w := v } : Cm).cs.toArray := B3
  refine bodyPost_ret (v := ({ y with w := v } : Cm).val) (results_cell_row Try.results38 _ w3 w.heap.size 35 _ (0, 0) _ rfl B3 Try.underlying35 rfl (by kernel_rfl)) rfl ?_
  exact ⟨rfl, bel_grown (bel_grown HB.out hg2 (by have := hlt1.out; omega)) hg3 (Nat.le_refl _)⟩
def fitsN (pt : Int) (n : Nat) : Bool := decide (1 ≤ n ∧ n ≤ 112 ∧ pt + n ≤ 4294967296)
theorem sfits_any {pt : Int} (hp : 0 ≤ pt ∧ pt < 4294967296) (n : Nat) (hn : n ≤ 1000000) (w : World) : Calls Try.prog 36 #[.int .u32 pt, .int .i64 n] w fun e w' => e = .returned (.bool (fitsN pt n)) ∧ w = w' := by
  have h1 : IntKind.i64.wrap pt = pt := IntWalk.i64_in _ (by omega)
  have h2 : IntKind.i64.wrap (pt + (n : Int)) = pt + n := IntWalk.i64_in _ (by omega)
  rcases (by omega : (n : Int) < 1 ∨ (1 ≤ (n : Int) ∧ 112 < (n : Int)) ∨ ((1 ≤ (n : Int) ∧ (n : Int) ≤ 112) ∧ 4294967296 < pt + n) ∨ ((1 ≤ (n : Int) ∧ (n : Int) ≤ 112) ∧ pt + n ≤ 4294967296)) with h | ⟨h, h'⟩ | ⟨⟨h, h'⟩, h3⟩ | ⟨⟨h, h'⟩, h3⟩
  · have hf : fitsN pt n = false := decide_eq_false (by omega)
    rw [hf]
    have hd : decide ((1 : Int) ≤ n) = false := decide_eq_false (by omega)
    clear hp hn hf
    go_enter Try.func36, Try.ntmps36
    go_wp2
    go_ret
    exact ⟨rfl, rfl⟩
  · have hf : fitsN pt n = false := decide_eq_false (by omega)
    rw [hf]
    have hd : decide ((1 : Int) ≤ n) = true := decide_eq_true h
    have hd2 : decide ((n : Int) ≤ 112) = false := decide_eq_false (by omega)
    clear hp hn hf h h'
    go_enter Try.func36, Try.ntmps36
    go_wp2
    go_ret
    exact ⟨rfl, rfl⟩
  · have hf : fitsN pt n = false := decide_eq_false (by omega)
    rw [hf]
    have hd : decide ((1 : Int) ≤ n) = true := decide_eq_true h
    have hd2 : decide ((n : Int) ≤ 112) = true := decide_eq_true h'
    have hd3 : decide (pt + (n : Int) ≤ 4294967296) = false := decide_eq_false (by omega)
    clear hp hn hf h h' h3
    go_enter Try.func36, Try.ntmps36
    go_wp2
    go_ret
    exact ⟨rfl, rfl⟩
  · have hf : fitsN pt n = true := decide_eq_true (by omega)
    rw [hf]
    have hd : decide ((1 : Int) ≤ n) = true := decide_eq_true h
    have hd2 : decide ((n : Int) ≤ 112) = true := decide_eq_true h'
    have hd3 : decide (pt + (n : Int) ≤ 4294967296) = true := decide_eq_true (by omega)
    clear hp hn hf h h' h3
    go_enter Try.func36, Try.ntmps36
    go_wp2
    go_ret
    exact ⟨rfl, rfl⟩
theorem tellO_any (a b : Int) (w : World) : Calls Try.prog 35 #[.int .i64 a, .int .i64 b] w fun e w' => e = .returned (.int .i64 b) ∧ w = w' := by
  go_enter Try.func35, Try.ntmps35
  go_wp2
  go_ret
  exact ⟨rfl, rfl⟩
theorem tellW_any (a b : Int) (w : World) : Calls Try.prog 37 #[.int .i64 a, .int .i64 b] w fun e w' => e = .returned (.int .i64 a) ∧ w = w' := by
  go_enter Try.func37, Try.ntmps37
  go_wp2
  go_ret
  exact ⟨rfl, rfl⟩
end Go.Proofs.Yteecgdbicokgoaa
