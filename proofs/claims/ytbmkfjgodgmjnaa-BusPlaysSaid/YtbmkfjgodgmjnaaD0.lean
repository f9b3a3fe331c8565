/- The bus: nodes in a row, Put. -/
import Derived.Test.YtbmkfjgodgmjnaaC8
import Derived.Deep.CutBlock
namespace Go.Proofs.Ytbmkfjgodgmjnaa
open Go.RowKit
set_option linter.unusedVariables false
set_option linter.unusedSimpArgs false
/-- A node: no box, or the one at this place. -/
def ptr : Option Nat → Value
  | none => .pointer none
  | some q => .pointer (some ⟨q, 0, none⟩)
def ptrs (L : List (Option Nat)) : List Value := L.map ptr
theorem ptrs_get {L : List (Option Nat)} {k : Nat} {x : Option Nat} (h : L[k]? = some x) : (ptrs L)[k]? = some (ptr x) := by unfold ptrs; rw [List.getElem?_map, h]; rfl
theorem ptrs_len (L : List (Option Nat)) : (ptrs L).length = L.length := by simp [ptrs]
def upd (s : Nat → Bx) (q : Nat) (a : Bx) : Nat → Bx := fun x => if x = q then a else s x
theorem upd_eq (s : Nat → Bx) (q : Nat) (a : Bx) : upd s q a q = a := if_pos rfl
theorem upd_ne (s : Nat → Bx) {q x : Nat} (a : Bx) (h : x ≠ q) : upd s q a x = s x := if_neg h
/-- What calls on boxes of these places may write. -/
def SD (D : Nat → Prop) (c : Nat × Nat) : Prop := D c.1 ∧ c.2 < 3
theorem SD.no9 (D : Nat → Prop) : ¬ SD D (0, 9) := fun h => by have := h.2; simp at this
theorem SD.no8 (D : Nat → Prop) : ¬ SD D (0, 8) := fun h => by have := h.2; simp at this
theorem SD.nor (D : Nat → Prop) (r : Nat) : ¬ SD D (r, 3) := fun h => by have := h.2; simp at this
theorem SD.of {D : Nat → Prop} {q : Nat} (h : D q) : ∀ c, Sq q c → SD D c := fun c hc => ⟨by rw [hc.1]; exact h, hc.2⟩
/-- The boxes of these places, and what they say. -/
def Bxs (Φ : Who) (B : Nat) (w : World) (D : Nat → Prop) (s : Nat → Bx) : Prop := ∀ q, D q → BX Φ B w q (s q)
theorem Bxs.below {Φ : Who} {B : Nat} {w w' : World} {D : Nat → Prop} {s : Nat → Bx} (h : Bxs Φ B w D s) (hb : Below w.heap.size w w') : Bxs Φ B w' D s := fun q hq => (h q hq).below hb
theorem Bxs.ext {Φ Φ' : Who} {B : Nat} {w w' : World} {D : Nat → Prop} {s : Nat → Bx} {S : Nat × Nat → Prop} (h : Bxs Φ B w D s) (he : Ext B S Φ Φ' w w') (hS : ∀ q j, D q → j < 3 → ¬ S (q, j)) (h9 : ¬ S (0, 9)) : Bxs Φ' B w' D s := fun q hq => (h q hq).ext he (fun j hj => hS q j hq hj) h9
/-- One of them is another now. -/
theorem Bxs.upd {Φ Φ' : Who} {B : Nat} {w w' : World} {D : Nat → Prop} {s : Nat → Bx} {q : Nat} {a : Bx} (h : Bxs Φ B w D s) (he : Ext B (Sq q) Φ Φ' w w') (ha : BX Φ' B w' q a) : Bxs Φ' B w' D (upd s q a) := fun x hx => by
  by_cases hxq : x = q
  · subst hxq
    rw [upd_eq]
    exact ha
  · rw [upd_ne _ _ hxq]
    exact (h x hx).ext he (fun j hj hh => hxq hh.1) (Sq.no9 q)
/-- What the boxes say behind a Put, and how many took the frame. -/
def putK (L : List (Option Nat)) (s : Nat → Bx) (f : Fr) : Nat → (Nat → Bx) × Nat
  | 0 => (s, 0)
  | k + 1 => match L[k]? with
    | some (some q) => (upd (putK L s f k).1 q (takeX ((putK L s f k).1 q) f), (putK L s f k).2 + if takeB ((putK L s f k).1 q) f then 1 else 0)
    | _ => putK L s f k
theorem putK_le (L : List (Option Nat)) (s : Nat → Bx) (f : Fr) : ∀ k, (putK L s f k).2 ≤ k
  | 0 => Nat.le_refl _
  | k + 1 => by
    have := putK_le L s f k
    unfold putK
    split
    · dsimp only
      split <;> omega
    · omega
/-- What a Put leaves. -/
def PutP (Φ : Who) (B : Nat) (D : Nat → Prop) (w : World) (s' : Nat → Bx) (m : Nat) (e : Ending) (w' : World) : Prop := e = .returned (.int .i64 m) ∧ ∃ Φ', Bxs Φ' B w' D s' ∧ Ext B (SD D) Φ Φ' w w'
set_option maxHeartbeats 1000000 in
theorem put_any {Φ : Who} {B : Nat} {w : World} {D : Nat → Prop} {s : Nat → Bx} {L : List (Option Nat)} {A : Option Addr} {n c : Nat} (h : Bxs Φ B w D s) (hD : ∀ q, some q ∈ L → D q) (hN : Nu Φ w) (hB : B ≤ w.heap.size) (hr : RdC Φ B w A (ptrs L)) (hn : L.length = n) (hnc : n ≤ c) (hc : c ≤ maxLen) (f : Fr) (hf : f.wf) :
    Calls Try.prog 39 #[f.val, .slice A n c] w (PutP Φ B D w (putK L s f n).1 (putK L s f n).2) := by
  unfold maxLen at hc
  have HN := Lib.hid hn
  clear hn
  go_enter Try.func39, Try.ntmps39
  go_upto_region 1 with fail
  refine wp_named fun W hW => ?_
  obtain ⟨BW, hbW⟩ := blk1 (c1 := f.cs.toArray) hW
  clear hW
  have FN : Φ w.heap.size = (0, 9) := hN _ (Nat.le_refl _)
  have hW0 : Hid (Bxs Φ B W D s ∧ RdC Φ B W A (ptrs L) ∧ Nu Φ W ∧ Ext B (SD D) Φ Φ w W) := Lib.hid ⟨h.below hbW, hr.below hbW, hN.below hbW, Ext.of_below hN hbW⟩
  have hzW := hbW.size
  clear h hr
  go_wp2_with fail
  go_loopw [5, 10] (fun mv iv wr => ∃ (k : Nat) (Φ' : Who), k ≤ n ∧ iv = .int .i64 k ∧ mv = .int .i64 (putK L s f k).2 ∧ Bxs Φ' B wr D (putK L s f k).1 ∧ Ext B (SD D) Φ Φ' w wr ∧ Ext B (SD D) Φ Φ' W wr) (fun _ iv _ => n - (intOf iv).toNat)
  case atStart => exact ⟨0, Φ, Nat.zero_le _, rfl, rfl, hW0.out.1, hW0.out.2.2.2, Ext.refl hW0.out.2.2.1⟩
  case round =>
    obtain ⟨k, Φ', hk, rfl, rfl, hb, hx, hxW⟩ := hrel
    have hzr := hx.size
    have hle := putK_le L s f k
    have FX := (show BlC Φ (0, 9) W w.heap.size 26 f.cs.toArray from ⟨BW, FN⟩).ext hxW (SD.no9 D)
    have bw := FX.1.cell
    by_cases hlt : k < n
    · have hlt' : (k : Int) < n := by omega
      obtain ⟨x, hxk⟩ : ∃ x, L[k]? = some x := ⟨_, List.getElem?_eq_getElem (by rw [HN.out]; exact hlt)⟩
      have hrr := hW0.out.2.1.ext hxW (SD.no9 D)
      obtain ⟨g, o, ea, -, -, hcl⟩ := hrr (by intro h; have := ptrs_len L; rw [h, HN.out] at this; simp at this; omega)
      have hp := hcl k _ (ptrs_get hxk)
      subst ea
      obtain ⟨m, hm⟩ : ∃ m, (putK L s f k).2 = m := ⟨_, rfl⟩
      rw [hm] at hle
      have FJ : Hid (∀ (Φ2 : Who) (m2 : Nat) (s2 : Nat → Bx) W', putK L s f (k + 1) = (s2, m2) → Bxs Φ2 B W' D s2 → Ext B (SD D) Φ' Φ2 wr W' → ∃ (k' : Nat) (Φ' : Who), k' ≤ n ∧ Value.int .i64 ((k + 1 : Nat) : Int) = .int .i64 k' ∧ Value.int .i64 (m2 : Int) = .int .i64 (putK L s f k').2 ∧ Bxs Φ' B W' D (putK L s f k').1 ∧ Ext B (SD D) Φ Φ' w W' ∧ Ext B (SD D) Φ Φ' W W') := Lib.hid fun Φ2 m2 s2 W' h1 h2 h3 => ⟨k + 1, Φ2, by omega, rfl, by rw [h1], by rw [h1]; exact h2, hx.trans h3, hxW.trans h3⟩
      have HM := Lib.hid hm
      have HXK := Lib.hid hxk
      rw [hm]
      clear hm hcl hrr hxk
      cases x with
      | none =>
        have hp' : wr.cell? ⟨g, o + k, none⟩ = some (.pointer none) := hp
        have T := Lib.hid (take_nil f)
        clear hp
        go_wp2_with fail
        refine (T.out _).mono ?_
        rintro e w3 ⟨rfl, b3⟩
        go_wp2_with fail
        go_roundw
        case rel => exact FJ.out Φ' m _ _ (by rw [putK, HXK.out, ← HM.out]) (hb.below b3) (Ext.of_below hx.nu b3)
        case measure => simp [intOf]; omega
      | some q =>
        have hp' : wr.cell? ⟨g, o + k, none⟩ = some (.pointer (some ⟨q, 0, none⟩)) := hp
        have hDq : D q := hD q (List.mem_of_getElem? HXK.out)
        have T := Lib.hid (take_any (hb q hDq) (Nat.le_trans hB hzr) hx.nu f hf)
        obtain ⟨tk, htk⟩ : ∃ tk, takeB ((putK L s f k).1 q) f = tk := ⟨_, rfl⟩
        have hpk : Hid (putK L s f (k + 1) = (upd (putK L s f k).1 q (takeX ((putK L s f k).1 q) f), m + if tk then 1 else 0)) := Lib.hid (by rw [putK, HXK.out, ← HM.out, ← htk])
        rw [htk] at T
        clear hp htk
        go_wp2_with fail
        refine T.out.mono ?_
        rintro e w3 ⟨rfl, Φ3, B3, x3⟩
        have HB3 := Lib.hid (hb.upd x3 B3)
        have HX3 := Lib.hid (x3.mono (S' := SD D) (Nat.le_refl _) (SD.of hDq))
        clear B3 x3
        cases tk
        · go_wp2_with fail
          go_roundw
          case rel => exact FJ.out Φ3 m _ _ hpk.out HB3.out HX3.out
          case measure => simp [intOf]; omega
        · have hm1 : (m : Int) + 1 ≤ 9223372036854775807 := by omega
          go_wp2_with fail
          go_roundw
          case rel => exact FJ.out Φ3 (m + 1) _ _ hpk.out HB3.out HX3.out
          case measure => simp [intOf]; omega
    · obtain rfl : k = n := by omega
      go_wp2_with fail
      go_ret
      exact ⟨rfl, Φ', hb, hx⟩
end Go.Proofs.Ytbmkfjgodgmjnaa
