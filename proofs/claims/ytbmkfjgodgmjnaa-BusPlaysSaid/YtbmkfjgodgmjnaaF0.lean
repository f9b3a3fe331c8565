/- Frames: whether one may be. -/
import Derived.Test.YtbmkfjgodgmjnaaKit
namespace Go.Proofs.Ytbmkfjgodgmjnaa
open Go.RowKit
set_option linter.unusedVariables false
set_option linter.unusedSimpArgs false
/-- A frame as plain data. -/
structure Fr where
  id : Int
  ext : Bool
  len : Int
  bs : List Int
def Fr.g (f : Fr) (i : Nat) : Int := f.bs.getD i 0
abbrev Fr.val (f : Fr) : Value := .agg #[.int .u32 f.id, .bool f.ext, .int .i64 f.len, .int .u8 (f.g 0), .int .u8 (f.g 1), .int .u8 (f.g 2), .int .u8 (f.g 3), .int .u8 (f.g 4), .int .u8 (f.g 5), .int .u8 (f.g 6), .int .u8 (f.g 7)]
def Fr.eqb (f g : Fr) : Bool := f.id == g.id && (f.ext == g.ext && (f.len == g.len && (f.g 0 == g.g 0 && f.g 1 == g.g 1 && f.g 2 == g.g 2 && f.g 3 == g.g 3 && f.g 4 == g.g 4 && f.g 5 == g.g 5 && f.g 6 == g.g 6 && f.g 7 == g.g 7)))


/-- May such an Id be? -/
def kn (id : Int) (ext : Bool) : Bool := decide (id < 2048) || ext && decide (id < 536870912)
def Fr.zeros (f : Fr) : Bool := (List.range 8).all fun (i : Nat) => decide ((i : Int) < f.len) || f.g i == 0
def Fr.may (f : Fr) : Bool := kn f.id f.ext && decide (0 ≤ f.len) && decide (f.len ≤ 8) && f.zeros
def Fr.none_ : Fr := ⟨0, false, 0, []⟩
def mkF (id : Int) (ext : Bool) (xs : List Int) : Fr := if kn id ext = true ∧ xs.length ≤ 8 then ⟨id, ext, xs.length, xs⟩ else Fr.none_
def mkE (id : Int) (ext : Bool) (xs : List Int) : Int := if kn id ext = false then 1 else if xs.length ≤ 8 then 0 else 3
def Fr.bytes (f : Fr) : List Int := if f.may then (List.range f.len.toNat).map f.g else []
def Fr.pad (f : Fr) (c : Int) : Fr := if f.may then ⟨f.id, f.ext, 8, (List.range 8).map fun (i : Nat) => if decide (((i : Nat) : Int) < f.len) then f.g i else c⟩ else f
def Fr.rank (f : Fr) : Int := if f.may then (if f.ext then f.id / 262144 * 524288 + 262144 + f.id % 262144 else f.id * 524288) else 4294967295
/-- The numbers are of their kinds. -/
def Fr.wf (f : Fr) : Prop := 0 ≤ f.id ∧ f.id < 4294967296 ∧ -9223372036854775808 ≤ f.len ∧ f.len ≤ 9223372036854775807 ∧ ∀ i, 0 ≤ f.g i ∧ f.g i < 256


theorem kn_true (id : Int) (h0 : 0 ≤ id) : (id / 536870912 == 0) = kn id true := by
  rw [Bool.eq_iff_iff]; simp [kn]; omega
theorem kn_false (id : Int) (h0 : 0 ≤ id) : (id / 2048 == 0) = kn id false := by
  rw [Bool.eq_iff_iff]; simp [kn]; omega

set_option maxHeartbeats 400000 in
theorem known_any (id : Int) (ext : Bool) (w : World) (h0 : 0 ≤ id) (h1 : id < 4294967296) :
    Calls Try.prog 54 #[.int .u32 id, .bool ext] w fun e w' => e = .returned (.bool (kn id ext)) ∧ w = w' := by
  cases ext
  · go_enter Try.func54, Try.ntmps54
    go_wp2
    go_ret
    exact ⟨ret_bool (kn_false id h0), rfl⟩
  · go_enter Try.func54, Try.ntmps54
    go_wp2
    go_ret
    exact ⟨ret_bool (kn_true id h0), rfl⟩

set_option maxHeartbeats 400000 in
theorem refknown_any (id : Int) (ext : Bool) (w : World) (h0 : 0 ≤ id) (h1 : id < 4294967296) :
    Calls Try.prog 49 #[.int .u32 id, .bool ext] w fun e w' => e = .returned (.bool (kn id ext)) ∧ w = w' := by
  by_cases h : id < 2048
  · go_enter Try.func49, Try.ntmps49
    go_wp2
    go_ret
    exact ⟨ret_bool (by simp [kn, h]), rfl⟩
  · have hd : decide (id < 2048) = false := by simpa using h
    have hd' : 2048 ≤ id := by omega
    cases ext
    · go_enter Try.func49, Try.ntmps49
      go_wp2
      go_ret
      exact ⟨ret_bool (by simp [kn]; omega), rfl⟩
    · go_enter Try.func49, Try.ntmps49
      go_wp2
      go_ret
      exact ⟨ret_bool (by simp [kn]; omega), rfl⟩


/-- A frame's cells, the bytes so far. -/
def boxF (id : Int) (ext : Bool) (len : Int) (xs : List Int) : Array Value :=
  #[.int .u32 id, .bool ext, .int .i64 len, .int .u8 (xs.getD 0 0), .int .u8 (xs.getD 1 0), .int .u8 (xs.getD 2 0), .int .u8 (xs.getD 3 0), .int .u8 (xs.getD 4 0), .int .u8 (xs.getD 5 0), .int .u8 (xs.getD 6 0), .int .u8 (xs.getD 7 0)]

theorem boxF_set (id : Int) (ext : Bool) (len v : Int) (ys : List Int) (k : Nat) (hk : ys.length = k) (h8 : k < 8) :
    (boxF id ext len ys).setIfInBounds (3 + k) (.int .u8 v) = boxF id ext len (ys ++ [v]) := by
  subst hk
  match ys, h8 with
  | [], _ | [_], _ | [_, _], _ | [_, _, _], _ | [_, _, _, _], _ | [_, _, _, _, _], _ | [_, _, _, _, _, _], _ | [_, _, _, _, _, _, _], _ => simp [boxF]
  | _ :: _ :: _ :: _ :: _ :: _ :: _ :: _ :: _, h8 => simp at h8; omega

theorem boxF_get (id : Int) (ext : Bool) (len : Int) (ys : List Int) (k : Nat) (h8 : k < 8) :
    (boxF id ext len ys)[3 + k]? = some (.int .u8 (ys.getD k 0)) := by
  match k, h8 with
  | 0, _ | 1, _ | 2, _ | 3, _ | 4, _ | 5, _ | 6, _ | 7, _ => simp [boxF]

theorem boxF_nil (id : Int) (ext : Bool) (len : Int) : boxF id ext len [] = #[.int .u32 id, .bool ext, .int .i64 len, .int .u8 0, .int .u8 0, .int .u8 0, .int .u8 0, .int .u8 0, .int .u8 0, .int .u8 0, .int .u8 0] := by
  simp [boxF]


theorem eq24 (a0 a1 a2 a3 a4 a5 a6 a7 b0 b1 b2 b3 b4 b5 b6 b7 : Int) (w : World) :
    (Op.equalIn 10000 24 (.agg #[.int .u8 a0, .int .u8 a1, .int .u8 a2, .int .u8 a3, .int .u8 a4, .int .u8 a5, .int .u8 a6, .int .u8 a7]) (.agg #[.int .u8 b0, .int .u8 b1, .int .u8 b2, .int .u8 b3, .int .u8 b4, .int .u8 b5, .int .u8 b6, .int .u8 b7])).run Try.prog w =
      .ok (a0 == b0 && a1 == b1 && a2 == b2 && a3 == b3 && a4 == b4 && a5 == b5 && a6 == b6 && a7 == b7) w :=
  run_equalIn_8 Try.underlying24 Try.underlying5 (fun w => Try.sizeOf5 w) 9998 _ _ _ _ _ _ _ _ _ _ _ _ _ _ _ _ w

theorem eq24' (a0 a1 a2 a3 a4 a5 a6 a7 b0 b1 b2 b3 b4 b5 b6 b7 : Int) (w : World) :
    (Op.equalIn 9999 24 (.agg #[.int .u8 a0, .int .u8 a1, .int .u8 a2, .int .u8 a3, .int .u8 a4, .int .u8 a5, .int .u8 a6, .int .u8 a7]) (.agg #[.int .u8 b0, .int .u8 b1, .int .u8 b2, .int .u8 b3, .int .u8 b4, .int .u8 b5, .int .u8 b6, .int .u8 b7])).run Try.prog w =
      .ok (a0 == b0 && a1 == b1 && a2 == b2 && a3 == b3 && a4 == b4 && a5 == b5 && a6 == b6 && a7 == b7) w :=
  run_equalIn_8 Try.underlying24 Try.underlying5 (fun w => Try.sizeOf5 w) 9997 _ _ _ _ _ _ _ _ _ _ _ _ _ _ _ _ w

theorem eq26 (i0 : Int) (e0 : Bool) (l0 a0 a1 a2 a3 a4 a5 a6 a7 : Int) (i1 : Int) (e1 : Bool) (l1 b0 b1 b2 b3 b4 b5 b6 b7 : Int) (w : World) :
    (Op.equalIn 10000 26 (.agg #[.int .u32 i0, .bool e0, .int .i64 l0, .int .u8 a0, .int .u8 a1, .int .u8 a2, .int .u8 a3, .int .u8 a4, .int .u8 a5, .int .u8 a6, .int .u8 a7]) (.agg #[.int .u32 i1, .bool e1, .int .i64 l1, .int .u8 b0, .int .u8 b1, .int .u8 b2, .int .u8 b3, .int .u8 b4, .int .u8 b5, .int .u8 b6, .int .u8 b7])).run Try.prog w =
      .ok (Fr.eqb ⟨i0, e0, l0, [a0, a1, a2, a3, a4, a5, a6, a7]⟩ ⟨i1, e1, l1, [b0, b1, b2, b3, b4, b5, b6, b7]⟩) w := by
  have hS : Try.prog.underlying 26 = some (.struct (Try.prog.fieldsOf 26)) := by kernel_rfl
  have hp : Try.prog.stoodInHeld 26 = false := by kernel_rfl
  have u22 := Try.underlying23
  have u4 := Try.underlying4
  have u3 := Try.underlying3
  have h24 := eq24'
  rw [show (10000 : Nat) = 9999 + 1 from rfl, run_equalIn_agg w 9999 26 _ _ hS hp]
  simp only [Program.fieldsOf, Try.underlying26]
  go_simp
  have hg : ∀ (c0 c1 c2 c3 c4 c5 c6 c7 : Int) id ext len, (Fr.mk id ext len [c0, c1, c2, c3, c4, c5, c6, c7]).g = fun i => [c0, c1, c2, c3, c4, c5, c6, c7].getD i 0 := fun _ _ _ _ _ _ _ _ _ _ _ => rfl
  simp only [Fr.eqb, hg]
  simp only [List.getD_cons_zero, List.getD_cons_succ]
  generalize (a0 == b0 && a1 == b1 && a2 == b2 && a3 == b3 && a4 == b4 && a5 == b5 && a6 == b6 && a7 == b7) = x
  by_cases h0 : i0 = i1 <;> by_cases h1 : e0 = e1 <;> by_cases h2 : l0 = l1 <;> cases x <;> simp [h0, h1, h2]

attribute [local go_sem] Builtin.copy_ Builtin.lenOf Builtin.firstCells storeCells loadCells loadCellsFrom in
set_option maxHeartbeats 1000000 in
theorem may_any (f : Fr) (w : World) (hf : f.wf) :
    Calls Try.prog 45 #[f.val] w fun e w' => e = .returned (.bool f.may) ∧ Below w.heap.size w w' := by
  obtain ⟨id, ext, len, bs⟩ := f
  obtain ⟨h0, h1, h2, h3, -⟩ := hf
  dsimp only at h0 h1 h2 h3
  have heq := eq24
  by_cases hk : kn id ext = true
  · by_cases hl : len < 0
    · have e1 : (Fr.mk id ext len bs).may = false := by simp [Fr.may]; omega
      rw [e1]; clear e1
      go_enter Try.func45, Try.ntmps45
      go_wp2_with (go_at_call 54; refine (known_any _ _ _ h0 h1).mono ?_; rintro e w' ⟨rfl, rfl⟩)
      go_returns
      exact ⟨rfl, by go_grown⟩
    · by_cases h8 : 8 < len
      · have e1 : (Fr.mk id ext len bs).may = false := by simp [Fr.may]; omega
        have hl' : 0 ≤ len := by omega
        rw [e1]; clear e1
        go_enter Try.func45, Try.ntmps45
        go_wp2_with (go_at_call 54; refine (known_any _ _ _ h0 h1).mono ?_; rintro e w' ⟨rfl, rfl⟩)
        go_returns
        exact ⟨rfl, by go_grown⟩
      · have hc : len = 0 ∨ len = 1 ∨ len = 2 ∨ len = 3 ∨ len = 4 ∨ len = 5 ∨ len = 6 ∨ len = 7 ∨ len = 8 := by omega
        clear hl h8 h2 h3
        rcases hc with rfl | rfl | rfl | rfl | rfl | rfl | rfl | rfl | rfl
        all_goals
          go_enter Try.func45, Try.ntmps45
          go_wp2_with (go_at_call 54; refine (known_any _ _ _ h0 h1).mono ?_; rintro e w' ⟨rfl, rfl⟩)
          go_region
          go_wp2
          go_returns
          exact ⟨ret_bool (by simp [Fr.may, Fr.zeros, hk, List.range_succ, Bool.and_assoc]), by go_grown⟩
  · have hk' : kn id ext = false := by simpa using hk
    have e1 : (Fr.mk id ext len bs).may = false := by simp [Fr.may, hk']
    rw [e1]; clear e1 hk
    go_enter Try.func45, Try.ntmps45
    go_wp2_with (go_at_call 54; refine (known_any _ _ _ h0 h1).mono ?_; rintro e w' ⟨rfl, rfl⟩)
    go_returns
    exact ⟨rfl, by go_grown⟩

def ZerosTo (f : Fr) (n k : Nat) : Prop := ∀ j, n ≤ j → j < k → f.g j = 0
theorem zeros_yes {f : Fr} {n : Nat} (hn : f.len = n) (h : ZerosTo f n 8) : f.zeros = true := by
  simp only [Fr.zeros, List.all_eq_true, List.mem_range]
  intro i hi
  by_cases hc : i < n
  · simp [hn, hc]
  · simp [h i (by omega) hi]
theorem zeros_no {f : Fr} {n k : Nat} (hn : f.len = n) (h1 : n ≤ k) (h2 : k < 8) (h : f.g k ≠ 0) : f.zeros = false := by
  rw [Bool.eq_false_iff]
  intro hz
  simp only [Fr.zeros, List.all_eq_true, List.mem_range] at hz
  have := hz k h2
  simp [hn, h] at this
  omega

set_option maxHeartbeats 1000000 in
theorem refmay_any (f : Fr) (w : World) (hf : f.wf) :
    Calls Try.prog 17 #[f.val] w fun e w' => e = .returned (.bool f.may) ∧ Below w.heap.size w w' := by
  obtain ⟨h0, h1, h2, h3, -⟩ := hf
  by_cases hk : kn f.id f.ext = true
  · by_cases hl : f.len < 0
    · have e1 : f.may = false := by simp [Fr.may]; omega
      rw [e1]; clear e1
      go_enter Try.func17, Try.ntmps17
      go_wp2_with (go_at_call 49; refine (refknown_any _ _ _ h0 h1).mono ?_; rintro e w' ⟨rfl, rfl⟩)
      go_returns
      exact ⟨rfl, by go_grown⟩
    · by_cases h8 : 8 < f.len
      · have e1 : f.may = false := by simp [Fr.may]; omega
        have hl' : 0 ≤ f.len := by omega
        rw [e1]; clear e1
        go_enter Try.func17, Try.ntmps17
        go_wp2_with (go_at_call 49; refine (refknown_any _ _ _ h0 h1).mono ?_; rintro e w' ⟨rfl, rfl⟩)
        go_returns
        exact ⟨rfl, by go_grown⟩
      · obtain ⟨n, hn⟩ : ∃ n : Nat, f.len = n := ⟨f.len.toNat, by omega⟩
        have HM : Hid (∀ b, f.zeros = b → f.may = b) := fun b hb => by simp [Fr.may, hk, hb]; omega
        have hl' : 0 ≤ f.len := by omega
        have hl8 : f.len ≤ 8 := by omega
        have hn8 : n ≤ 8 := by omega
        have HN := Lib.hid hn
        clear hn
        go_enter Try.func17, Try.ntmps17
        go_wp2_with (go_at_call 49; refine (refknown_any _ _ _ h0 h1).mono ?_; rintro e w' ⟨rfl, rfl⟩)
        rw [show #[Value.int .u32 f.id, .bool f.ext, .int .i64 f.len, .int .u8 (f.g 0), .int .u8 (f.g 1), .int .u8 (f.g 2), .int .u8 (f.g 3), .int .u8 (f.g 4), .int .u8 (f.g 5), .int .u8 (f.g 6), .int .u8 (f.g 7)] = boxF f.id f.ext f.len f.bs from rfl]
        go_loop [3] (fun i => ∃ k : Nat, n ≤ k ∧ k ≤ 8 ∧ i = .int .i64 k ∧ Hid (ZerosTo f n k)) (fun i => 8 - (intOf i).toNat)
        case atStart => exact ⟨n, by omega, by omega, by rw [HN.out], fun j h1 h2 => by omega⟩
        case round =>
          obtain ⟨k, hk1, hk2, rfl, hz⟩ := hrel
          by_cases hlt : k < 8
          · have hg := boxF_get f.id f.ext f.len f.bs k hlt
            have hlt' : (k : Int) < 8 := by omega
            generalize hv : f.bs.getD k 0 = v at hg
            have HV : Hid (f.g k = v) := hv
            clear hv
            by_cases hv0 : v = 0
            · subst hv0
              go_wp2
              go_round
              case rel => exact ⟨k + 1, by omega, by omega, by go_num, fun j h1 h2 => by
                rcases Nat.lt_or_ge j k with h | h
                · exact hz.out j h1 h
                · obtain rfl : j = k := by omega
                  exact HV.out⟩
              case measure => simp [intOf]; omega
            · have hb : (v == 0) = false := by simpa using hv0
              have hb' : (v != 0) = true := by simpa using hv0
              go_wp2
              go_ret
              exact ⟨ret_bool (HM.out _ (zeros_no HN.out hk1 hlt (by rw [HV.out]; exact hv0))).symm, by go_grown⟩
          · obtain rfl : k = 8 := by omega
            go_wp2
            go_ret
            exact ⟨ret_bool (HM.out _ (zeros_yes HN.out hz.out)).symm, by go_grown⟩
  · have hk' : kn f.id f.ext = false := by simpa using hk
    have e1 : f.may = false := by simp [Fr.may, hk']
    rw [e1]; clear e1 hk
    go_enter Try.func17, Try.ntmps17
    go_wp2_with (go_at_call 49; refine (refknown_any _ _ _ h0 h1).mono ?_; rintro e w' ⟨rfl, rfl⟩)
    go_returns
    exact ⟨rfl, by go_grown⟩
end Go.Proofs.Ytbmkfjgodgmjnaa
