import Derived.Test.YtegbffcimldjnaaFrame
namespace Go.Proofs.Ytegbffcimldjnaa
open Go.RowKit
set_option linter.unusedVariables false
set_option linter.unusedSimpArgs false

/-- A frame's cells, the bytes so far. -/
def boxF (id : Int) (ext : Bool) (len : Int) (xs : List Int) : Array Value :=
  #[.int .u32 id, .bool ext, .int .i64 len, .int .u8 (xs.getD 0 0), .int .u8 (xs.getD 1 0), .int .u8 (xs.getD 2 0), .int .u8 (xs.getD 3 0), .int .u8 (xs.getD 4 0), .int .u8 (xs.getD 5 0), .int .u8 (xs.getD 6 0), .int .u8 (xs.getD 7 0)]

theorem boxF_set (id : Int) (ext : Bool) (len v : Int) (ys : List Int) (k : Nat) (hk : ys.length = k) (h8 : k < 8) :
    (boxF id ext len ys).setIfInBounds (3 + k) (.int .u8 v) = boxF id ext len (ys ++ [v]) := by
  subst hk
  match ys, h8 with
  | [], _ | [_], _ | [_, _], _ | [_, _, _], _ | [_, _, _, _], _ | [_, _, _, _, _], _ | [_, _, _, _, _, _], _ | [_, _, _, _, _, _, _], _ => simp [boxF]
  | _ :: _ :: _ :: _ :: _ :: _ :: _ :: _ :: _, h8 => simp at h8; omega

theorem boxF_get (id : Int) (ext : Bool) (len : Int) (ys : List Int) (k : Nat) (h8 : k < 8) :
    (boxF id ext len ys)[3 + k]? = some (.int .u8 (ys.getD k 0)) := by
  match k, h8 with
  | 0, _ | 1, _ | 2, _ | 3, _ | 4, _ | 5, _ | 6, _ | 7, _ => simp [boxF]

theorem boxF_nil (id : Int) (ext : Bool) (len : Int) : boxF id ext len [] = #[.int .u32 id, .bool ext, .int .i64 len, .int .u8 0, .int .u8 0, .int .u8 0, .int .u8 0, .int .u8 0, .int .u8 0, .int .u8 0, .int .u8 0] := by
  simp [boxF]

set_option maxHeartbeats 1000000 in
theorem refmake_any (id : Int) (ext : Bool) (A : Option Addr) (xs : List Int) (c : Nat) (w : World) (h0 : 0 ≤ id) (h1 : id < 4294967296) (hb : Rd w w.heap.size A (u8s xs)) (hl : xs.length ≤ maxLen) :
    Calls Try.prog 12 #[.int .u32 id, .bool ext, .slice A xs.length c] w fun e w' => e = .returned (.tuple #[(mkF id ext xs).val, .int .i64 (mkE id ext xs)]) ∧ Below w.heap.size w w' := by
  unfold maxLen at hl
  by_cases hk : kn id ext = true
  · by_cases h8 : xs.length ≤ 8
    · have eF : mkF id ext xs = ⟨id, ext, xs.length, xs⟩ := by simp [mkF, hk, h8]
      have eE : mkE id ext xs = 0 := by simp [mkE, hk, h8]
      rw [eF, eE]
      clear eF eE
      by_cases hn : xs = []
      · subst hn
        go_enter Try.func12, Try.ntmps12
        go_wp2_with (go_at_call 24; refine (refknown_any _ _ _ h0 h1).mono ?_; rintro e w' ⟨rfl, rfl⟩)
        refine wp_loop_rounds 1 ?_
        rw [rounds_succ]
        go_wp2
        go_returns
        exact ⟨by simp [Fr.val, Fr.g], by go_grown⟩
      · obtain ⟨b, o, rfl, hbl, hc⟩ := hb (by simpa using hn)
        have hb0 := boxF_nil id ext xs.length
        have HB := Lib.hid hb0
        go_enter Try.func12, Try.ntmps12
        go_wp2_with (go_at_call 24; refine (refknown_any _ _ _ h0 h1).mono ?_; rintro e w' ⟨rfl, rfl⟩)
        rw [← HB.out]
        clear HB hb0
        go_loopw [9] (fun i wr => ∃ k : Nat, k ≤ xs.length ∧ i = .int .i64 k ∧ wr = (w.alloc (.cells (boxF 0 false 0 []) 26)).alloc (.cells (boxF id ext xs.length (xs.take k)) 26)) (fun i _ => xs.length - (intOf i).toNat)
        case atStart => exact ⟨0, Nat.zero_le _, rfl, by rw [boxF_nil 0 false 0]; simp⟩
        case round =>
          obtain ⟨k, hk', rfl, rfl⟩ := hrel
          by_cases hlt : k < xs.length
          · have hx : w.cell? ⟨b, o + k, none⟩ = some (.int .u8 (xs.getD k 0)) := hc k _ (by simp [List.getElem?_eq_getElem hlt])
            have hx' : ∀ o1 o2, ((w.alloc o1).alloc o2).cell? ⟨b, o + k, none⟩ = some (.int .u8 (xs.getD k 0)) := fun o1 o2 => by
              rw [World.cell?_alloc_lt _ _ _ (by simp; omega), World.cell?_alloc_lt _ _ _ hbl]; exact hx
            have hg := boxF_get id ext xs.length (xs.take k) k (by omega)
            have hs := boxF_set id ext xs.length (xs.getD k 0) (xs.take k) k (by simp; omega) (by omega)
            have ht : xs.take k ++ [xs.getD k 0] = xs.take (k + 1) := by
              rw [List.take_succ_eq_append_getElem hlt]; simp [List.getElem?_eq_getElem hlt]
            rw [ht] at hs
            clear ht hx
            generalize xs.getD k 0 = v at hx' hs
            have hlt' : (k : Int) < xs.length := by omega
            go_wp2
            go_roundw
            case rel => exact ⟨k + 1, by omega, by go_num, rfl⟩
            case measure => simp [intOf]; omega
          · obtain rfl : k = xs.length := by omega
            rw [List.take_length]
            have hbx : boxF id ext xs.length xs = #[.int .u32 id, .bool ext, .int .i64 xs.length, .int .u8 (xs.getD 0 0), .int .u8 (xs.getD 1 0), .int .u8 (xs.getD 2 0), .int .u8 (xs.getD 3 0), .int .u8 (xs.getD 4 0), .int .u8 (xs.getD 5 0), .int .u8 (xs.getD 6 0), .int .u8 (xs.getD 7 0)] := rfl
            have hbx0 := boxF_nil 0 false 0
            go_wp2
            go_returns
            exact ⟨by simp [Fr.val, Fr.g], by go_grown⟩
    · have eF : mkF id ext xs = Fr.none_ := by simp [mkF, h8]
      have eE : mkE id ext xs = 3 := by simp [mkE, hk, h8]
      rw [eF, eE]
      clear eF eE
      have h9 : (8 : Int) < xs.length := by omega
      go_enter Try.func12, Try.ntmps12
      go_wp2_with (go_at_call 24; refine (refknown_any _ _ _ h0 h1).mono ?_; rintro e w' ⟨rfl, rfl⟩)
      go_returns
      exact ⟨rfl, by go_grown⟩
  · have hk' : kn id ext = false := by simpa using hk
    have eF : mkF id ext xs = Fr.none_ := by simp [mkF, hk']
    have eE : mkE id ext xs = 1 := by simp [mkE, hk']
    rw [eF, eE]
    clear eF eE
    go_enter Try.func12, Try.ntmps12
    go_wp2_with (go_at_call 24; refine (refknown_any _ _ _ h0 h1).mono ?_; rintro e w' ⟨rfl, rfl⟩)
    go_returns
    exact ⟨rfl, by go_grown⟩
end Go.Proofs.Ytegbffcimldjnaa
