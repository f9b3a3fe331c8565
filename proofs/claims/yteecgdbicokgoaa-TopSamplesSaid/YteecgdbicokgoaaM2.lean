/- Memory: Read and Write. -/
import Derived.Test.YteecgdbicokgoaaM1
import Derived.Test.YteecgdbicokgoaaL0
namespace Go.Proofs.Yteecgdbicokgoaa
open Go.RowKit
set_option linter.unusedVariables false
set_option linter.unusedSimpArgs false
set_option maxRecDepth 100000
theorem rowI_some {M : Mx} {who area : Int} {k : Nat} (h : rowI M who area = some k) : (area = 0 ∧ k = 0) ∨ ∃ S, M.seg = some S ∧ area = 1 ∧ k = (if who = 1 then S.a else S.x) + 1 := by
  unfold rowI at h
  split at h
  · rename_i ha
    injection h with h
    exact .inl ⟨ha, h.symm⟩
  split at h
  · rename_i ha
    cases hS : M.seg with
    | none => rw [hS] at h; cases h
    | some S =>
      rw [hS] at h
      simp only [Option.map_some, Option.some.injEq] at h
      exact .inr ⟨S, rfl, ha, h.symm⟩
  · cases h
theorem row_len {w : World} {L T m : Nat} {M : Mx} (h : MAt w L T m M) {who area : Int} {k : Nat} (hk : rowI M who area = some k) : (rowL M k).length = (if k = 0 then 64 else 16) ∧ k ≤ 2 := by
  rcases rowI_some hk with ⟨_, rfl⟩ | ⟨S, hS, _, rfl⟩
  · exact ⟨h.rowAt (.inl rfl), by decide⟩
  · have := h.ok.sg S hS
    have h1 := this.a1
    have h2 := this.x1
    have : (if who = 1 then S.a else S.x) + 1 ≤ 2 := by split <;> omega
    exact ⟨h.rowAt (.inr ⟨by rw [hS]; simp, this⟩), this⟩
theorem part_yes {w : World} {L T m : Nat} {M : Mx} (h : MAt w L T m M) {who : Int} (hw : who = 1 ∨ who = 2) {area : Int} {k : Nat} (hk : rowI M who area = some k) {pt n : Nat} (hf : pt + n ≤ (rowL M k).length) :
    ∃ g, RowG w L T m M k g ∧ Calls Try.prog 39 #[.pointer (some ⟨m, 0, none⟩), .int .u8 who, .int .u8 area, .int .u32 pt, .int .i64 n] w (PartP w g k pt n (rowL M k).length) := by
  have hl := (row_len h hk).1
  rcases rowI_some hk with ⟨rfl, rfl⟩ | ⟨S, hS, rfl, hkk⟩
  · rw [if_pos rfl] at hl
    rw [hl] at hf ⊢
    exact part_ram h who hw pt n hf
  · rw [if_neg (by omega)] at hl
    rw [hl] at hf ⊢
    subst hkk
    exact part_seg h hS who hw pt n hf rfl
set_option maxHeartbeats 2000000 in
theorem part_no {w : World} {L T m : Nat} {M : Mx} (h : MAt w L T m M) {who : Int} (hw : who = 1 ∨ who = 2) {area : Int} (ha : 0 ≤ area ∧ area < 256) {pt n : Nat} (hp : pt < 4294967296) (hn : n ≤ 1000000) (hno : ∀ k, rowI M who area = some k → (rowL M k).length < pt + n) :
    Calls Try.prog 39 #[.pointer (some ⟨m, 0, none⟩), .int .u8 who, .int .u8 area, .int .u32 pt, .int .i64 n] w fun e w' => e = .returned (.tuple #[.slice none 0 0, .bool false, .int .i64 80]) ∧ w = w' := by
  have hMA := h
  obtain ⟨gr, As, ns, cs, h⟩ := h
  have hc := h.b.cell
  have hpI : (pt : Int) < 4294967296 := by omega
  have hnI : (n : Int) ≤ 1000000 := by omega
  have h4 : IntKind.i64.wrap (pt : Int) = pt := IntWalk.i64_in _ (by omega)
  have hwa : IntKind.i64.wrap area = area := IntWalk.i64_in _ (by omega)
  clear hp hn hpI
  rcases (by omega : area = 0 ∨ 0 < area) with rfl | h0
  · have hlt : 64 < pt + n := by rw [← h.ok.lr]; exact hno 0 (by unfold rowI; rw [if_pos rfl])
    have h2 : IntKind.i64.wrap (64 - (n : Int)) = 64 - n := IntWalk.i64_in _ (by omega)
    clear h hno hMA
    rcases (by omega : (64 : Int) < n ∨ ((n : Int) ≤ 64 ∧ 64 - (n : Int) < pt)) with h5 | ⟨h5, h6⟩
    all_goals
      go_enter Try.func39, Try.ntmps39
      rcases hw with rfl | rfl
      all_goals
        go_wp2_with fail
        go_ret3
        exact ⟨rfl, rfl⟩
  · have hs := h.sg
    cases hS : M.seg with
    | none =>
      rw [hS] at hs
      obtain ⟨rfl, rfl, rfl⟩ := hs
      clear h hno hMA hS
      go_enter Try.func39, Try.ntmps39
      rcases hw with rfl | rfl
      all_goals
        go_wp2_with fail
        go_ret3
        exact ⟨rfl, rfl⟩
    | some S =>
      rw [hS] at hs
      have hSo := h.ok.sg S hS
      obtain ⟨rfl, gs, Ap, cp, g0, g1, q1, q2, q3, q4, q5, q6, q7, q8, q9, q10, q11, q12, q13⟩ := hs
      rcases (by omega : area = 1 ∨ 1 < area) with rfl | h1
      · obtain ⟨p, hp'⟩ : ∃ p, (if who = 1 then S.a else S.x) = p := ⟨_, rfl⟩
        have hk : rowI M who 1 = some (p + 1) := by unfold rowI; rw [if_neg (by decide), if_pos rfl, hS, ← hp']; rfl
        have hlt := hno _ hk
        have hl := (row_len hMA hk).1
        rw [if_neg (by omega)] at hl
        rw [hl] at hlt
        obtain ⟨ga, oa, rfl⟩ := q1.at_ (by decide)
        have ra := q1.cells 0 _ rfl
        rw [Nat.add_zero] at ra
        have hs4 := q4.cell
        obtain ⟨gp, op, rfl⟩ := q5.at_ (by decide)
        have rp0 := q5.cells 0 _ rfl
        have rp1 := q5.cells 1 _ rfl
        rw [Nat.add_zero] at rp0
        have h2 : IntKind.i64.wrap (16 - (n : Int)) = 16 - n := IntWalk.i64_in _ (by omega)
        have hcc : (16 : Int) < n ∨ ((n : Int) ≤ 16 ∧ 16 - (n : Int) < pt) := by omega
        have ha1 := hSo.a1
        have hx1 := hSo.x1
        obtain ⟨Sa, hSa⟩ : ∃ Sa, S.a = Sa := ⟨_, rfl⟩
        obtain ⟨Sx, hSx⟩ : ∃ Sx, S.x = Sx := ⟨_, rfl⟩
        rw [hSa] at ha1
        rw [hSx] at hx1
        rw [hSa, hSx] at hs4
        have hcs : (who = 1 ∧ Sa = 0) ∨ (who = 1 ∧ Sa = 1) ∨ (who = 2 ∧ Sx = 0) ∨ (who = 2 ∧ Sx = 1) := by omega
        clear h hno hMA hS hSo q1 q2 q3 q4 q5 q6 q7 q8 q9 q10 q11 q12 q13 hp' hk hlt hl hSa hSx ha1 hx1 hw
        go_enter Try.func39, Try.ntmps39
        rcases hcc with h5 | ⟨h5, h6⟩
        all_goals
          rcases hcs with ⟨rfl, rfl⟩ | ⟨rfl, rfl⟩ | ⟨rfl, rfl⟩ | ⟨rfl, rfl⟩
          all_goals
            go_wp2_with fail
            go_ret3
            exact ⟨rfl, rfl⟩
      · clear h hno hMA hS hSo q1 q2 q3 q4 q5 q6 q7 q8 q9 q10 q11 q12 q13
        go_enter Try.func39, Try.ntmps39
        rcases hw with rfl | rfl
        all_goals
          go_wp2_with fail
          go_ret3
          exact ⟨rfl, rfl⟩
theorem readX_some {M : Mx} {who area : Int} {pt n : Nat} {l : List Int} (h : readX M who area pt n = some l) : ∃ k, rowI M who area = some k ∧ pt + n ≤ (rowL M k).length ∧ l = ((rowL M k).drop pt).take n := by
  unfold readX at h
  cases hk : rowI M who area with
  | none => rw [hk] at h; cases h
  | some k =>
    rw [hk] at h
    dsimp only at h
    split at h
    · rename_i hf
      injection h with h
      exact ⟨k, rfl, hf, h.symm⟩
    · cases h
theorem readX_none {M : Mx} {who area : Int} {pt n : Nat} (h : readX M who area pt n = none) : ∀ k, rowI M who area = some k → (rowL M k).length < pt + n := fun k hk => by
  unfold readX at h
  rw [hk] at h
  dsimp only at h
  split at h
  · cases h
  · omega
theorem clone_nil (w : World) : Calls Try.prog 40 #[.slice none 0 0] w fun e w' => e = .returned (.slice none 0 0) ∧ w = w' := by
  have he := Lib.run_eql_slice_nil (P := Try.prog) w 22 5 none 0 0 0 0 Try.underlying22
  go_enter Try.func40, Try.ntmps40
  go_wp2
  go_ret
  exact ⟨rfl, rfl⟩
/-- Read. -/
theorem read_yes {w : World} {L T m : Nat} {M : Mx} (h : MAt w L T m M) {who : Int} (hw : who = 1 ∨ who = 2) {area : Int} {pt n : Nat} {l : List Int} (hr : readX M who area pt n = some l) (h0 : 0 < n) :
    Calls Try.prog 12 #[.pointer (some ⟨m, 0, none⟩), .int .u8 who, .int .u8 area, .int .u32 pt, .int .i64 n] w fun e w' => ∃ A c, e = .returned (.tuple #[.slice A n c, .int .i64 0]) ∧ l.length = n ∧ Own w' w.heap.size 5 1 A n c (u8s l) ∧ Below w.heap.size w w' := by
  obtain ⟨k, hk, hf, hl⟩ := readX_some hr
  have hlen := row_len h hk
  obtain ⟨g, hG, hC⟩ := part_yes h hw hk hf
  have hll : l.length = n := by rw [hl, List.length_take, List.length_drop]; omega
  have hn : n ≤ 1000000 := by
    have := hlen.1
    split at this <;> omega
  have PC := Lib.hid hC
  have CL := Lib.hid (fun o c (ho : o = pt) => clone_any (some ⟨g, o, none⟩) n c l w hll (fun _ => ⟨g, o, rfl, hG.b.lt, fun i u hu => by
    rw [hG.b.cell, ho]
    rw [hl, List.getElem?_map, List.getElem?_take] at hu
    split at hu
    · rw [List.getElem?_drop] at hu
      simp only [List.getElem?_toArray, List.getElem?_map]
      exact hu
    · simp at hu⟩) (fun h => by cases h) hn)
  clear hC hG h hk hlen hl hr
  go_enter Try.func12, Try.ntmps12
  go_wp2_with fail
  refine PC.out.mono ?_
  rintro e w' ⟨⟨o, rfl, ho⟩, rfl⟩
  have C1 := CL.out o ((rowL M k).length - pt) (by omega)
  clear PC CL
  go_wp2_with fail
  refine C1.mono ?_
  rintro e w' ⟨A, c, rfl, hO, hb⟩
  go_wp2_with fail
  go_ret2
  exact ⟨A, c, rfl, hll, hO, hb⟩
theorem read_no {w : World} {L T m : Nat} {M : Mx} (h : MAt w L T m M) {who : Int} (hw : who = 1 ∨ who = 2) {area : Int} (ha : 0 ≤ area ∧ area < 256) {pt n : Nat} (hp : pt < 4294967296) (hn : n ≤ 1000000) (hr : readX M who area pt n = none) :
    Calls Try.prog 12 #[.pointer (some ⟨m, 0, none⟩), .int .u8 who, .int .u8 area, .int .u32 pt, .int .i64 n] w fun e w' => e = .returned (.tuple #[.slice none 0 0, .int .i64 80]) ∧ Below w.heap.size w w' := by
  have PC := Lib.hid (part_no h hw ha hp hn (readX_none hr))
  have CL := Lib.hid (fun w => clone_nil w)
  clear h
  go_enter Try.func12, Try.ntmps12
  go_wp2_with fail
  refine PC.out.mono ?_
  rintro e w' ⟨rfl, rfl⟩
  clear PC
  go_wp2_with fail
  refine (CL.out _).mono ?_
  rintro e w' ⟨rfl, rfl⟩
  go_wp2_with fail
  go_ret2
  exact ⟨rfl, Below.refl _ _⟩
end Go.Proofs.Yteecgdbicokgoaa
