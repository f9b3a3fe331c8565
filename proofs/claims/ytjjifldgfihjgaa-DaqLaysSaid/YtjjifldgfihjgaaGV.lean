/- DaqLays: the literal that does a command. -/
import Derived.Test.YtjjifldgfihjgaaGU
import Derived.Test.YtjjifldgfihjgaaGO
import Derived.Test.YtjjifldgfihjgaaCpy
namespace Go.Proofs.Ytjjifldgfihjgaa
open Go.RowKit
set_option linter.unusedVariables false
set_option linter.unusedSimpArgs false
/-- A command of these small numbers. -/
def cmL (k : Int) (xs : List Int) (v : Int) : Cm := cm k (xs.getD 0 0) (xs.getD 1 0) (xs.getD 2 0) (xs.getD 3 0) (xs.getD 4 0) v
theorem info29 : (Try.prog.info? 5).map (·.size) = some 1 := by kernel_rfl
theorem copy_cmd {w : World} {g : Nat} {k v : Int} (hB : Blk w g 33 #[.int .u8 k, .int .u8 0, .int .u8 0, .int .u8 0, .int .u8 0, .int .u8 0, .int .u32 v, .slice none 0 0]) {A : Option Addr} {n c : Nat} {xs : List Int} (hn : xs.length = n) (h5 : n ≤ 5) (h0 : 0 < n) (hr : Rd w w.heap.size A (u8s xs)) (ty : TypeId) :
    ∃ w', (Builtin.copy_ #[31, 31] ty #[.slice (some ⟨g, 1, none⟩) 5 5, .slice A n c]).run Try.prog w = .ok (goInt n) w' ∧ Blk w' g 33 (cmL k xs v).cs.toArray ∧ w.grownBy w' (some g) := by
  have hne : u8s xs ≠ [] := fun e => by have := congrArg List.length e; simp [u8s] at this; subst this; simp at hn; omega
  obtain ⟨b, o, rfl, hb, hc⟩ := hr hne
  have hadd : ∀ (b o j : Nat), (⟨b, o, none⟩ : Addr).add j = ⟨b, o + j, none⟩ := fun b o j => by unfold Addr.add; split <;> simp_all
  have hm : Nat.min n 5 = n := Nat.min_eq_left h5
  have hr := run_copyN (P := Try.prog) w 31 31 ty 5 g 1 5 5 ⟨b, o, none⟩ n c #[.int .u8 k, .int .u8 0, .int .u8 0, .int .u8 0, .int .u8 0, .int .u8 0, .int .u32 v, .slice none 0 0] 33 (u8s xs) 1 n Try.underlying31 info29 hm hB (by simp [hn]) (fun j u hu => by rw [hadd]; exact hc j u hu) (by simp [hn]; omega) (u8s_one _)
  refine ⟨_, hr, ?_, ⟨rfl, rfl, rfl, by simp, fun k _ hk => setRow_other w g k _ (fun e => hk (by rw [e]))⟩⟩
  have hs := setRow_heap w g #[.int .u8 k, .int .u8 0, .int .u8 0, .int .u8 0, .int .u8 0, .int .u8 0, .int .u32 v, .slice none 0 0] (((#[.int .u8 k, .int .u8 0, .int .u8 0, .int .u8 0, .int .u8 0, .int .u8 0, .int .u32 v, .slice none 0 0] : Array Value).toList.take 1 ++ u8s xs ++ (#[.int .u8 k, .int .u8 0, .int .u8 0, .int .u8 0, .int .u8 0, .int .u8 0, .int .u32 v, .slice none 0 0] : Array Value).toList.drop (1 + (u8s xs).length)).toArray) 33 (0, 0) hB
  unfold Blk
  rw [hs]
  subst hn
  match xs, h5, h0 with
  | [a], _, _ => rfl
  | [a, b], _, _ => rfl
  | [a, b, c], _, _ => rfl
  | [a, b, c, d], _, _ => rfl
  | [a, b, c, d, e], _, _ => rfl
set_option maxRecDepth 100000 in
set_option maxHeartbeats 1000000 in
theorem do_clos {w0 w : World} {Φ : Who} {q gd : Nat} {a : Dq} (hX : DX Φ w0.heap.size w q a) (hN : Nu Φ w) (hle : w0.heap.size ≤ w.heap.size) (hD : Blk w gd 24 #[.pointer (some ⟨q, 0, none⟩)])
    {k v : Int} {xs : List Int} {A : Option Addr} {n c : Nat} (hn : xs.length = n) (h5 : n ≤ 5) (h0 : 0 < n) (hr : Rd w w.heap.size A (u8s xs)) (hin : ∀ B w, CbIn w B (cmL k xs v, [])) :
    Calls Try.prog 15 #[.int .u8 k, .int .u32 v, .slice A n c, .pointer (some ⟨gd, 0, none⟩)] w fun e w' => ∃ Φ', e = .returned (.bool ((doX a (cmL k xs v)).2.2 == 0)) ∧ DX Φ' w0.heap.size w' q (doX a (cmL k xs v)).1 ∧ Nu Φ' w' ∧ Ext w0.heap.size (Sd q) Φ Φ' w w' := by
  have HIN := Lib.hid hin
  have HX := Lib.hid hX
  have HN := Lib.hid hN
  have HR := Lib.hid hr
  have hd := hD.rule
  have HD := Lib.hid hD
  clear hX hN hr hin hD
  go_enter Try.func15, Try.ntmps15
  go_upto_region 2 with fail
  refine wp_named fun W hW => ?_
  obtain ⟨BC, hbW⟩ := blk1 (c1 := #[.int .u8 k, .int .u8 0, .int .u8 0, .int .u8 0, .int .u8 0, .int .u8 0, .int .u32 v, .slice none 0 0]) hW
  obtain ⟨gc, hgc⟩ : ∃ gc, w.heap.size = gc := ⟨_, rfl⟩
  rw [hgc] at BC ⊢
  obtain ⟨w2, hc2, BC2, hg2⟩ := copy_cmd (c := c) BC hn h5 h0 (HR.out.bel hbW) 3
  have hb2 : Below w.heap.size w w2 := bel_grown hbW hg2 (by omega)
  have BD := (HD.out.below hb2).cell
  have BC2c := BC2.cell
  have D := Lib.hid ((do_any (HX.out.below hb2) (HN.out.below hb2) (cmL k xs v) (HIN.out 0 w).wf [] rfl (Nat.zero_le _) Rd.nil).mono (R' := fun e w' => ∃ V d Φ', e = .returned (.tuple #[.slice V (doX a (cmL k xs v)).2.1.length d, .int .i64 (doX a (cmL k xs v)).2.2]) ∧ DX Φ' w0.heap.size w' q (doX a (cmL k xs v)).1 ∧ Nu Φ' w' ∧ Ext w0.heap.size (Sd q) Φ Φ' w w') fun e w' h => by
    obtain ⟨V, d, Φ', h1, h2, h3, h4⟩ := h
    exact ⟨V, d, Φ', h1, h3, h4.nu, (Ext.of_below HN.out hb2).trans h4⟩)
  clear hW hd HX HN HD HIN HR BC hbW hgc hg2 hb2 BC2
  go_wp2_with (at_builtin; refine wpList_cp _ rfl (.tmp 15) (.tmp 16) 31 31 rfl _ _ rfl rfl hc2 ?_)
  refine D.out.mono ?_
  rintro e w3 ⟨V, d, Φ', rfl, hX3, hN3, he3⟩
  obtain ⟨re, hre⟩ : ∃ re, (doX a (cmL k xs v)).2.2 = re := ⟨_, rfl⟩
  rw [hre]
  have HRE := Lib.hid hre
  clear hre BD BC2c
  go_wp2_with fail
  go_ret
  exact ⟨Φ', by rw [HRE.out]; rfl, hX3, hN3, he3⟩
/-- The Daq and the variable that names it, while it is laid. -/
def LZ (w0 : World) (q gd : Nat) (a : Dq) (w : World) : Prop := ∃ Φ, DX Φ w0.heap.size w q a ∧ Nu Φ w ∧ BlC Φ (0, 9) w gd 24 #[.pointer (some ⟨q, 0, none⟩)] ∧ Below w0.heap.size w0 w
theorem LZ.below {w0 w w' : World} {q gd : Nat} {a : Dq} (h : LZ w0 q gd a w) (hb : Below w.heap.size w w') : LZ w0 q gd a w' := by
  obtain ⟨Φ, h1, h2, h3, h4⟩ := h
  exact ⟨Φ, h1.below hb, h2.below hb, h3.below hb, h4.trans (hb.mono h4.size)⟩
theorem LZ.bel {w0 w : World} {q gd : Nat} {a : Dq} (h : LZ w0 q gd a w) : Below w0.heap.size w0 w := by
  obtain ⟨Φ, h1, h2, h3, h4⟩ := h
  exact h4
theorem LZ.eq {w0 w : World} {q gd : Nat} {a b : Dq} (h : LZ w0 q gd a w) (e : a = b) : LZ w0 q gd b w := e ▸ h
theorem LZ.cell {w0 w : World} {q gd : Nat} {a : Dq} (h : LZ w0 q gd a w) : ∀ i, w.cell? ⟨gd, i, none⟩ = (#[.pointer (some ⟨q, 0, none⟩)] : Array Value)[i]? := by
  obtain ⟨Φ, h1, h2, h3, h4⟩ := h
  exact h3.1.cell
/-- The literal, called with small numbers just laid. -/
theorem LZ.do_ {w0 w : World} {q gd : Nat} {a : Dq} (h : LZ w0 q gd a w) {k v : Int} (xs : List Int) {n : Nat} (hn : xs.length = n) (h5 : n ≤ 5) (h0 : 0 < n) (hin : ∀ B w, CbIn w B (cmL k xs v, [])) (cs : Array Value) (hcs : cs = (u8s xs).toArray) {r : Dq × Int} (hr : (doX a (cmL k xs v)).1 = r.1 ∧ (doX a (cmL k xs v)).2.2 = r.2) :
    Calls Try.prog 15 #[.int .u8 k, .int .u32 v, .slice (some ⟨w.heap.size, 0, none⟩) n n, .pointer (some ⟨gd, 0, none⟩)] (w.alloc (.cells cs 5)) fun e w' => e = .returned (.bool (r.2 == 0)) ∧ LZ w0 q gd r.1 w' := by
  subst hcs
  obtain ⟨Φ, h1, h2, h3, h4⟩ := h
  have hb := bl1 w (.cells (u8s xs).toArray 5)
  have hR : Rd (w.alloc (.cells (u8s xs).toArray 5)) (w.alloc (.cells (u8s xs).toArray 5)).heap.size (some ⟨w.heap.size, 0, none⟩) (u8s xs) := (Blk.new w 5 (u8s xs).toArray).rd
  refine (do_clos (h1.below hb) (h2.below hb) (Nat.le_trans h4.size hb.size) (h3.1.below hb) hn h5 h0 hR hin).mono ?_
  rintro e w' ⟨Φ', rfl, hX, hN, hE⟩
  rw [hr.1] at hX
  rw [hr.2]
  exact ⟨rfl, Φ', hX, hN, (h3.below hb).ext hE (sd09 q), (h4.trans (hb.mono h4.size)).trans (hE.below (Nat.le_trans h4.size hb.size))⟩
end Go.Proofs.Ytjjifldgfihjgaa
