/- Boxes: frames and filters in rows, what a box says, and its memory. -/
import Derived.Test.YtbmkfjgodgmjnaaCol
import Derived.Test.YtbmkfjgodgmjnaaF1
namespace Go.Proofs.Ytbmkfjgodgmjnaa
open Go.RowKit
set_option linter.unusedVariables false
set_option linter.unusedSimpArgs false
abbrev Fr.cs (f : Fr) : List Value := [.int .u32 f.id, .bool f.ext, .int .i64 f.len, .int .u8 (f.g 0), .int .u8 (f.g 1), .int .u8 (f.g 2), .int .u8 (f.g 3), .int .u8 (f.g 4), .int .u8 (f.g 5), .int .u8 (f.g 6), .int .u8 (f.g 7)]
/-- The cells of a row of frames. -/
def fcells : List Fr → List Value
  | [] => []
  | f :: l => f.cs ++ fcells l
theorem fcells_len : ∀ l : List Fr, (fcells l).length = l.length * 11
  | [] => rfl
  | f :: l => by simp only [fcells, List.length_append, fcells_len l, List.length_cons, List.length_nil]; omega
theorem fcells_app : ∀ l m : List Fr, fcells (l ++ m) = fcells l ++ fcells m
  | [], m => rfl
  | f :: l, m => by simp only [List.cons_append, fcells, fcells_app l m, List.append_assoc]
theorem fcells_drop : ∀ (k : Nat) (l : List Fr), fcells (l.drop k) = (fcells l).drop (k * 11)
  | 0, l => by simp
  | k + 1, [] => by simp [fcells]
  | k + 1, f :: l => by
    rw [List.drop_succ_cons, fcells_drop k l, fcells, show (k + 1) * 11 = 11 + k * 11 by omega, ← List.drop_drop]
    rfl
theorem fcells_take : ∀ (k : Nat) (l : List Fr), fcells (l.take k) = (fcells l).take (k * 11)
  | 0, l => by simp [fcells]
  | k + 1, [] => by simp [fcells]
  | k + 1, f :: l => by
    rw [List.take_succ_cons, fcells, fcells, fcells_take k l, show (k + 1) * 11 = f.cs.length + k * 11 by simp; omega, List.take_length_add_append]
theorem fcells_one : ∀ (l : List Fr), ∀ v ∈ fcells l, v.oneCell' = true
  | [] => fun v hv => by cases hv
  | f :: l => fun v hv => by
    rcases List.mem_append.1 hv with h | h
    · simp only [Fr.cs, List.mem_cons, List.not_mem_nil, or_false] at h
      rcases h with rfl | rfl | rfl | rfl | rfl | rfl | rfl | rfl | rfl | rfl | rfl <;> rfl
    · exact fcells_one l v h
theorem fcells_get (l : List Fr) (k : Nat) (f : Fr) (h : l[k]? = some f) (j : Nat) (v : Value) (hv : f.cs[j]? = some v) : (fcells l)[k * 11 + j]? = some v := by
  have h1 : fcells (l.drop k) = (fcells l).drop (k * 11) := fcells_drop k l
  have h2 : l.drop k = f :: l.drop (k + 1) := by
    obtain ⟨hk, rfl⟩ := List.getElem?_eq_some_iff.1 h
    exact List.drop_eq_getElem_cons hk
  rw [h2, fcells] at h1
  rw [← List.getElem?_drop, ← h1, List.getElem?_append_left (List.getElem?_eq_some_iff.1 hv).1]
  exact hv
/-- A filter as plain data. -/
structure Flt where
  mask : Int
  id : Int
  ext : Bool
abbrev Flt.val (x : Flt) : Value := .agg #[.int .u32 x.mask, .int .u32 x.id, .bool x.ext]
abbrev Flt.cs (x : Flt) : List Value := [.int .u32 x.mask, .int .u32 x.id, .bool x.ext]
def Flt.wf (x : Flt) : Prop := 0 ≤ x.mask ∧ x.mask < 4294967296 ∧ 0 ≤ x.id ∧ x.id < 4294967296
def flcells : List Flt → List Value
  | [] => []
  | f :: l => f.cs ++ flcells l
theorem flcells_len : ∀ l : List Flt, (flcells l).length = l.length * 3
  | [] => rfl
  | f :: l => by simp only [flcells, List.length_append, flcells_len l, List.length_cons, List.length_nil]; omega
theorem flcells_drop : ∀ (k : Nat) (l : List Flt), flcells (l.drop k) = (flcells l).drop (k * 3)
  | 0, l => by simp
  | k + 1, [] => by simp [flcells]
  | k + 1, f :: l => by
    rw [List.drop_succ_cons, flcells_drop k l, flcells, show (k + 1) * 3 = 3 + k * 3 by omega, ← List.drop_drop]
    rfl
theorem flcells_take : ∀ (k : Nat) (l : List Flt), flcells (l.take k) = (flcells l).take (k * 3)
  | 0, l => by simp [flcells]
  | k + 1, [] => by simp [flcells]
  | k + 1, f :: l => by
    rw [List.take_succ_cons, flcells, flcells, flcells_take k l, show (k + 1) * 3 = f.cs.length + k * 3 by simp; omega, List.take_length_add_append]
theorem flcells_one : ∀ (l : List Flt), ∀ v ∈ flcells l, v.oneCell' = true
  | [] => fun v hv => by cases hv
  | f :: l => fun v hv => by
    rcases List.mem_append.1 hv with h | h
    · simp only [Flt.cs, List.mem_cons, List.not_mem_nil, or_false] at h
      rcases h with rfl | rfl | rfl <;> rfl
    · exact flcells_one l v h
theorem flcells_get (l : List Flt) (k : Nat) (f : Flt) (h : l[k]? = some f) (j : Nat) (v : Value) (hv : f.cs[j]? = some v) : (flcells l)[k * 3 + j]? = some v := by
  have h1 : flcells (l.drop k) = (flcells l).drop (k * 3) := flcells_drop k l
  have h2 : l.drop k = f :: l.drop (k + 1) := by
    obtain ⟨hk, rfl⟩ := List.getElem?_eq_some_iff.1 h
    exact List.drop_eq_getElem_cons hk
  rw [h2, flcells] at h1
  rw [← List.getElem?_drop, ← h1, List.getElem?_append_left (List.getElem?_eq_some_iff.1 hv).1]
  exact hv
theorem info26 : (Try.prog.info? 26).map (fun i => (i.zero, i.size, i.bytes)) = some (some (.agg #[.int .u32 0, .bool false, .int .i64 0, .int .u8 0, .int .u8 0, .int .u8 0, .int .u8 0, .int .u8 0, .int .u8 0, .int .u8 0, .int .u8 0]), 11, 24) := by kernel_rfl
theorem info33 : (Try.prog.info? 33).map (fun i => (i.zero, i.size, i.bytes)) = some (some (.agg #[.int .u32 0, .int .u32 0, .bool false]), 3, 12) := by kernel_rfl
/-- Cells that read so, in a block that is older than B, or nobody's. -/
def RdC (Φ : Who) (B : Nat) (w : World) (A : Option Addr) (vs : List Value) : Prop :=
  vs ≠ [] → ∃ b o, A = some ⟨b, o, none⟩ ∧ b < w.heap.size ∧ (b < B ∨ Φ b = (0, 9)) ∧ ∀ i u, vs[i]? = some u → w.cell? ⟨b, o + i, none⟩ = some u
section
variable {Φ Φ' : Who} {B : Nat} {w w' : World} {A : Option Addr} {vs : List Value}
theorem RdC.nil : RdC Φ B w A [] := fun h => absurd rfl h
theorem RdC.rd (h : RdC Φ B w A vs) : Rd w w.heap.size A vs := fun hn => by
  obtain ⟨b, o, h1, h2, _, h3⟩ := h hn
  exact ⟨b, o, h1, h2, h3⟩
theorem RdC.of_rd (h : Rd w B A vs) (hB : B ≤ w.heap.size) : RdC Φ B w A vs := fun hn => by
  obtain ⟨b, o, h1, h2, h3⟩ := h hn
  exact ⟨b, o, h1, by omega, .inl h2, h3⟩
theorem RdC.of_own {base e size n c : Nat} (h : OwC Φ (0, 9) w base e size A n c vs) : RdC Φ B w A vs := fun hn => by
  obtain ⟨b, o, h1, h2, h3⟩ := h.1.rd hn
  exact ⟨b, o, h1, h2, .inr (h.2 b (by rw [h1]; rfl)), h3⟩
theorem RdC.ext {S : Nat × Nat → Prop} (h : RdC Φ B w A vs) (he : Ext B S Φ Φ' w w') (hS : ¬ S (0, 9)) : RdC Φ' B w' A vs := fun hn => by
  obtain ⟨b, o, h1, h2, h3, h4⟩ := h hn
  have hs := he.size
  have hnf : ¬ (B ≤ b ∧ S (Φ b)) := fun hx => by
    rcases h3 with h3 | h3
    · omega
    · rw [h3] at hx; exact hS hx.2
  have hb := he.2.2.block b h2 hnf
  refine ⟨b, o, h1, by omega, ?_, fun i u hu => ?_⟩
  · rcases h3 with h3 | h3
    · exact .inl h3
    · exact .inr ((he.1 b h2).trans h3)
  · rw [← h4 i u hu]
    exact World.cell?_of_block (a := ⟨b, o + i, none⟩) hb
theorem RdC.below (h : RdC Φ B w A vs) (hb : Below w.heap.size w w') : RdC Φ B w' A vs := fun hn => by
  obtain ⟨b, o, h1, h2, h3, h4⟩ := h hn
  have := hb.size
  exact ⟨b, o, h1, by omega, h3, fun i u hu => (hb.cell h2).trans (h4 i u hu)⟩
theorem RdC.paint {A2 : Option Addr} {k : Nat × Nat} (h : RdC Φ B w A vs) (hA : ∀ g, blkOf A2 = some g → g < w.heap.size → B ≤ g ∧ Φ g ≠ (0, 9)) : RdC (Go.Proofs.Ytbmkfjgodgmjnaa.paint Φ A2 k) B w A vs := fun hn => by
  obtain ⟨b, o, h1, h2, h3, h4⟩ := h hn
  refine ⟨b, o, h1, h2, ?_, h4⟩
  rcases h3 with h3 | h3
  · exact .inl h3
  · refine .inr ((paint_ne fun hb => ?_).trans h3)
    exact (hA b hb h2).2 h3
end
/-- What a box says. -/
structure Bx where
  fl : List Flt
  tx : List Fr
  rx : List Fr
  lost : Bool
structure Bx.ok (a : Bx) : Prop where
  f8 : a.fl.length ≤ 8
  t3 : a.tx.length ≤ 3
  r4 : a.rx.length ≤ 4
  fw : ∀ x ∈ a.fl, x.wf
  tw : ∀ f ∈ a.tx, f.wf
  rw : ∀ f ∈ a.rx, f.wf
/-- The program's box in memory: whose its rows are. -/
def BX (Φ : Who) (B : Nat) (w : World) (q : Nat) (a : Bx) : Prop := B ≤ q ∧ a.ok ∧ Φ q = (q, 0) ∧ ∃ A0 c0 A1 c1 A2 c2,
  Blk w q 82 #[.slice A0 a.fl.length c0, .slice A1 a.tx.length c1, .slice A2 a.rx.length c2, .bool a.lost] ∧
  RdC Φ B w A0 (flcells a.fl) ∧ OwC Φ (q, 1) w B 26 11 A1 a.tx.length c1 (fcells a.tx) ∧ OwC Φ (q, 2) w B 26 11 A2 a.rx.length c2 (fcells a.rx)
/-- What a call on the box at q may write. -/
def Sq (q : Nat) (c : Nat × Nat) : Prop := c.1 = q ∧ c.2 < 3
theorem Sq.no9 (q : Nat) : ¬ Sq q (0, 9) := fun h => by have := h.2; simp at this
theorem BX.ext {Φ Φ' : Who} {B q : Nat} {w w' : World} {a : Bx} {S : Nat × Nat → Prop} (h : BX Φ B w q a) (he : Ext B S Φ Φ' w w') (hS : ∀ j, j < 3 → ¬ S (q, j)) (h9 : ¬ S (0, 9)) : BX Φ' B w' q a := by
  obtain ⟨h1, h2, h3, A0, c0, A1, c1, A2, c2, h4, h5, h6, h7⟩ := h
  have h0 : BlC Φ (q, 0) w q 82 _ := ⟨h4, h3⟩
  obtain ⟨k1, k2⟩ := h0.ext he (hS 0 (by decide))
  exact ⟨h1, h2, k2, A0, c0, A1, c1, A2, c2, k1, h5.ext he h9, h6.ext he (hS 1 (by decide)), h7.ext he (hS 2 (by decide))⟩
theorem BX.below {Φ : Who} {B q : Nat} {w w' : World} {a : Bx} (h : BX Φ B w q a) (hb : Below w.heap.size w w') : BX Φ B w' q a := by
  obtain ⟨h1, h2, h3, A0, c0, A1, c1, A2, c2, h4, h5, h6, h7⟩ := h
  exact ⟨h1, h2, h3, A0, c0, A1, c1, A2, c2, h4.below hb, h5.below hb, h6.below hb, h7.below hb⟩
theorem BX.lt {Φ : Who} {B q : Nat} {w : World} {a : Bx} (h : BX Φ B w q a) : q < w.heap.size := by
  obtain ⟨h1, h2, h3, A0, c0, A1, c1, A2, c2, h4, -⟩ := h
  exact h4.lt
theorem wait_nil (w : World) : Calls Try.prog 21 #[.pointer none] w fun e w' => e = .returned (.int .i64 0) ∧ w = w' := by
  go_enter Try.func21, Try.ntmps21
  go_wp2_with fail
  go_ret
  exact ⟨rfl, rfl⟩
theorem wait_any {Φ : Who} {B q : Nat} {w : World} {a : Bx} (h : BX Φ B w q a) : Calls Try.prog 21 #[.pointer (some ⟨q, 0, none⟩)] w fun e w' => e = .returned (.int .i64 a.tx.length) ∧ w = w' := by
  obtain ⟨-, -, -, A0, c0, A1, c1, A2, c2, h4, -⟩ := h
  have e1 : w.cell? ⟨q, 1, none⟩ = some (.slice A1 a.tx.length c1) := (h4.cell 1).trans rfl
  clear h4
  go_enter Try.func21, Try.ntmps21
  go_wp2_with fail
  go_ret
  exact ⟨rfl, rfl⟩
theorem taken_nil (w : World) : Calls Try.prog 34 #[.pointer none] w fun e w' => e = .returned (.int .i64 0) ∧ w = w' := by
  go_enter Try.func34, Try.ntmps34
  go_wp2_with fail
  go_ret
  exact ⟨rfl, rfl⟩
theorem taken_any {Φ : Who} {B q : Nat} {w : World} {a : Bx} (h : BX Φ B w q a) : Calls Try.prog 34 #[.pointer (some ⟨q, 0, none⟩)] w fun e w' => e = .returned (.int .i64 a.rx.length) ∧ w = w' := by
  obtain ⟨-, -, -, A0, c0, A1, c1, A2, c2, h4, -⟩ := h
  have e1 : w.cell? ⟨q, 2, none⟩ = some (.slice A2 a.rx.length c2) := (h4.cell 2).trans rfl
  clear h4
  go_enter Try.func34, Try.ntmps34
  go_wp2_with fail
  go_ret
  exact ⟨rfl, rfl⟩
theorem over_nil (w : World) : Calls Try.prog 24 #[.pointer none] w fun e w' => e = .returned (.bool false) ∧ w = w' := by
  go_enter Try.func24, Try.ntmps24
  go_wp2_with fail
  go_ret
  exact ⟨rfl, rfl⟩
/-- What a call on a box answers and leaves. -/
def BxP (Φ : Who) (B : Nat) (w : World) (q : Nat) (a' : Bx) (v : Value) (e : Ending) (w' : World) : Prop := e = .returned v ∧ ∃ Φ', BX Φ' B w' q a' ∧ Ext B (Sq q) Φ Φ' w w'
theorem over_any {Φ : Who} {B q : Nat} {w : World} {a : Bx} (h : BX Φ B w q a) (hN : Nu Φ w) : Calls Try.prog 24 #[.pointer (some ⟨q, 0, none⟩)] w (BxP Φ B w q { a with lost := false } (.bool a.lost)) := by
  obtain ⟨h1, h2, h3, A0, c0, A1, c1, A2, c2, h4, h5, h6, h7⟩ := h
  have e1 : w.cell? ⟨q, 3, none⟩ = some (.bool a.lost) := (h4.cell 3).trans rfl
  have ef := h4.frozen
  have b1 := h4.set_ 3 (.bool false)
  have hx := (Ext.refl (B := B) (S := Sq q) hN).set_ (g := q) (o := 3) h1 (by rw [h3]; exact ⟨rfl, (by decide : 0 < 3)⟩) h4.lt (.bool false)
  have k5 := h5.ext hx (Sq.no9 q)
  have hne : ∀ j, 0 < j → ∀ {A : Option Addr} {n c : Nat} {xs : List Value}, OwC Φ (q, j) w B 26 11 A n c xs → OwC Φ (q, j) (w.setCell ⟨q, 3, none⟩ (.bool false)) B 26 11 A n c xs := fun j hj A n c xs ho =>
    ⟨ho.1.far (fun e => by have := ho.2 _ e; rw [h3] at this; simp at this; omega) _, ho.2⟩
  have HB := Lib.hid (show BX Φ B (w.setCell ⟨q, 3, none⟩ (.bool false)) q { a with lost := false } from ⟨h1, ⟨h2.f8, h2.t3, h2.r4, h2.fw, h2.tw, h2.rw⟩, h3, A0, c0, A1, c1, A2, c2, b1, k5, hne 1 (by decide) h6, hne 2 (by decide) h7⟩)
  have HX := Lib.hid hx
  clear b1 hx k5 hne h4 h5 h6 h7 h2
  go_enter Try.func24, Try.ntmps24
  go_wp2_with fail
  go_ret
  exact ⟨rfl, Φ, HB.out, HX.out⟩
end Go.Proofs.Ytbmkfjgodgmjnaa
