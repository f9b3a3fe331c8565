/- Boxes: New, filters, whether a frame is let in. -/
import Derived.Test.YtbmkfjgodgmjnaaB2
namespace Go.Proofs.Ytbmkfjgodgmjnaa
open Go.RowKit
set_option linter.unusedVariables false
set_option linter.unusedSimpArgs false
/-- Lets a filter a frame in? -/
def letsB (x : Flt) (f : Fr) : Bool := x.ext == f.ext && (bits .and .u32 (bits .xor .u32 x.id f.id) x.mask == 0)
theorem lets_any (x : Flt) (f : Fr) (w : World) : Calls Try.prog 48 #[x.val, f.val] w fun e w' => e = .returned (.bool (letsB x f)) ∧ Below w.heap.size w w' := by
  obtain ⟨m, hm⟩ : ∃ m, bits .and .u32 (bits .xor .u32 x.id f.id) x.mask = m := ⟨_, rfl⟩
  obtain ⟨y, hy⟩ : ∃ y, bits .xor .u32 x.id f.id = y := ⟨_, rfl⟩
  rw [hy] at hm
  have HL : Hid (letsB x f = (x.ext == f.ext && (m == 0))) := Lib.hid (by unfold letsB; rw [hy, hm])
  cases he : (x.ext == f.ext)
  · rw [he] at HL
    go_enter Try.func48, Try.ntmps48
    go_wp2_with fail
    go_ret
    exact ⟨ret_bool (by rw [HL.out]; rfl), by go_grown⟩
  · rw [he] at HL
    go_enter Try.func48, Try.ntmps48
    go_wp2_with fail
    go_ret
    exact ⟨ret_bool (by rw [HL.out]; simp), by go_grown⟩
def frOK (w : World) (g : Nat) (f : Fr) : Prop := Blk w g 26 f.cs.toArray
theorem take1_any (x : Flt) (f : Fr) (g : Nat) (w : World) (h : Blk w g 26 f.cs.toArray) : Calls Try.prog 47 #[x.val, .pointer (some ⟨g, 0, none⟩)] w fun e w' => e = .returned (.bool (letsB x f)) ∧ Below w.heap.size w w' := by
  have h' := h.alloc (.cells x.cs.toArray 33)
  have hc := h'.cell
  have L := Lib.hid (lets_any x f)
  clear h h'
  go_enter Try.func47, Try.ntmps47
  go_wp2_with fail
  refine (L.out _).mono ?_
  rintro e w' ⟨rfl, hb⟩
  go_wp2_with fail
  go_ret
  exact ⟨rfl, bel1 hb⟩
def anyB (l : List Flt) (f : Fr) : Bool := l.any fun x => letsB x f
def IdxP (w : World) (l : List Flt) (f : Fr) (e : Ending) (w' : World) : Prop := ∃ i : Int, e = .returned (.int .i64 i) ∧ decide (0 ≤ i) = anyB l f ∧ Below w.heap.size w w'
theorem any_at (l : List Flt) (f : Fr) (k : Nat) (t : Flt) (h : l[k]? = some t) (hb : letsB t f = true) : anyB l f = true := by
  simp only [anyB, List.any_eq_true]
  exact ⟨t, List.mem_of_getElem? h, hb⟩
theorem any_no (l : List Flt) (f : Fr) (h : ∀ (k : Nat) (t : Flt), l[k]? = some t → letsB t f = false) : anyB l f = false := by
  rw [anyB, List.any_eq_false]
  intro t ht
  obtain ⟨k, hk, rfl⟩ := List.mem_iff_getElem.1 ht
  have := h k _ (List.getElem?_eq_getElem hk)
  simpa using this
set_option maxHeartbeats 1000000 in
theorem index_any (A : Option Addr) (n c : Nat) (l : List Flt) (f : Fr) (g : Nat) (w : World) (hx : l.length = n) (hl : n ≤ 1000000) (hr : Rd w w.heap.size A (flcells l)) (hg : Blk w g 26 f.cs.toArray) :
    Calls Try.prog 55 #[.slice A n c, .func (.func 47) #[] #[.pointer (some ⟨g, 0, none⟩)]] w (IdxP w l f) := by
  have HX := Lib.hid hx
  clear hx
  go_enter Try.func55, Try.ntmps55
  go_wp2
  go_loopw [8] (fun i wr => ∃ k : Nat, k ≤ n ∧ i = .int .i64 k ∧ (∀ (j : Nat) (t : Flt), j < k → l[j]? = some t → letsB t f = false) ∧ Below w.heap.size w wr) (fun i _ => n - (intOf i).toNat)
  case atStart => exact ⟨0, Nat.zero_le _, rfl, fun j t h => by omega, Below.refl _ _⟩
  case round =>
    obtain ⟨k, hk, rfl, hno, hb⟩ := hrel
    have HNo := Lib.hid hno
    clear hno
    by_cases hlt : k < n
    · have hlt' : (k : Int) < n := by omega
      obtain ⟨t, ht⟩ : ∃ t, l[k]? = some t := ⟨_, List.getElem?_eq_getElem (by rw [HX.out]; exact hlt)⟩
      obtain ⟨b, o, rfl, -, hc⟩ := hr.below hb (by intro h; have h2 := flcells_len l; rw [h, HX.out] at h2; simp at h2; omega)
      have q0 := hc _ _ (flcells_get l k t ht 0 _ rfl)
      have q1 := hc _ _ (flcells_get l k t ht 1 _ rfl)
      have q2 := hc _ _ (flcells_get l k t ht 2 _ rfl)
      rw [← Nat.add_assoc] at q1 q2
      rw [Nat.add_zero] at q0
      have HT := Lib.hid ht
      have hz := hb.size
      have TK := Lib.hid (take1_any t f g wr (hg.below hb))
      clear ht hc
      cases hlet : letsB t f
      · rw [hlet] at TK
        have HLE := Lib.hid hlet
        clear hlet
        go_wp2_with (go_at_call 47; refine TK.out.mono ?_; rintro e w1 ⟨rfl, hb1⟩)
        go_roundw
        case rel =>
          refine ⟨k + 1, by omega, by go_num, fun j t' hj h => ?_, hb.trans (hb1.mono hz)⟩
          rcases Nat.lt_or_ge j k with h' | h'
          · exact HNo.out j t' h' h
          · obtain rfl : j = k := by omega
            rw [HT.out] at h
            injection h with h
            subst h
            exact HLE.out
        case measure => simp [intOf]; omega
      · rw [hlet] at TK
        have HLE := Lib.hid hlet
        clear hlet
        go_wp2_with (go_at_call 47; refine TK.out.mono ?_; rintro e w1 ⟨rfl, hb1⟩)
        go_ret
        exact ⟨k, rfl, by rw [any_at l f k t HT.out HLE.out]; simp, hb.trans (hb1.mono hz)⟩
    · obtain rfl : k = n := by omega
      go_wp2
      go_ret
      refine ⟨-1, rfl, ?_, hb⟩
      rw [any_no l f fun j t h => HNo.out j t (by rw [← HX.out]; exact (List.getElem?_eq_some_iff.1 h).1) h]
      rfl
theorem contains_any (A : Option Addr) (n c : Nat) (l : List Flt) (f : Fr) (g : Nat) (w : World) (hx : l.length = n) (hl : n ≤ 1000000) (hr : Rd w w.heap.size A (flcells l)) (hg : Blk w g 26 f.cs.toArray) :
    Calls Try.prog 46 #[.slice A n c, .func (.func 47) #[] #[.pointer (some ⟨g, 0, none⟩)]] w fun e w' => e = .returned (.bool (anyB l f)) ∧ Below w.heap.size w w' := by
  have C := Lib.hid (index_any A n c l f g w hx hl hr hg)
  go_enter Try.func46, Try.ntmps46
  go_wp2_with fail
  refine C.out.mono ?_
  rintro e w' ⟨i, rfl, hi, hb⟩
  have Hi := Lib.hid hi
  clear hi
  go_wp2_with fail
  go_ret
  exact ⟨ret_bool Hi.out, hb⟩
end Go.Proofs.Ytbmkfjgodgmjnaa
