/- Memory: Write, Set. -/
import Derived.Test.YteecgdbicokgoaaM2
namespace Go.Proofs.Yteecgdbicokgoaa
open Go.RowKit
set_option linter.unusedVariables false
set_option linter.unusedSimpArgs false
set_option maxRecDepth 100000
theorem info5s : (Try.prog.info? 5).map (·.size) = some 1 := by kernel_rfl
theorem putX_len {l b : List Int} {pt : Nat} (h : pt + b.length ≤ l.length) : (putX l pt b).length = l.length := by
  simp only [putX, List.length_append, List.length_take, List.length_drop]
  omega
theorem copy_row {w : World} {g : Nat} {row : List Int} (hB : Blk w g 5 (u8s row).toArray) {A : Option Addr} {n c o pt cap : Nat} {b : List Int} (hn : b.length = n) (hf : pt + n ≤ row.length) (ho : o = pt ∨ n = 0) (hr : Rd w w.heap.size A (u8s b)) (hA : A = none → n = 0 ∧ c = 0) (ty : TypeId) :
    ∃ w', (Builtin.copy_ #[22, 22] ty #[.slice (some ⟨g, o, none⟩) n cap, .slice A n c]).run Try.prog w = .ok (goInt n) w' ∧ Blk w' g 5 (u8s (putX row pt b)).toArray ∧ w.grownBy w' (some g) := by
  have hadd : ∀ (b o j : Nat), (⟨b, o, none⟩ : Addr).add j = ⟨b, o + j, none⟩ := fun b o j => by unfold Addr.add; split <;> simp_all
  have hm : Nat.min n n = n := Nat.min_self n
  rcases Nat.eq_zero_or_pos n with h0 | h0
  · have hb : b = [] := List.eq_nil_of_length_eq_zero (by omega)
    subst hb
    subst h0
    have hput : putX row pt [] = row := by simp [putX]
    rw [hput]
    refine ⟨w, ?_, hB, ⟨rfl, rfl, rfl, Nat.le_refl _, fun _ _ _ => rfl⟩⟩
    cases hq : Try.prog.info? 5 with
    | none => have := info5s; simp [hq] at this
    | some i =>
      have hi : i.size = 1 := by have := info5s; simpa [hq] using this
      cases A with
      | none =>
        have hff := run_firstCells_none (P := Try.prog) w 1 0 0 c
        simp [Builtin.copy_, run_underlying Try.underlying22, Builtin.lenOf, sizeOf, typeInfo, hq, hi, hff, storeCells]
      | some a =>
        have hff := run_firstCells_some (P := Try.prog) w 1 0 a 0 c [] rfl (by intro j v h; cases h)
        simp [Builtin.copy_, run_underlying Try.underlying22, Builtin.lenOf, sizeOf, typeInfo, hq, hi, hff, storeCells]
  · have hne : u8s b ≠ [] := fun e => by have := congrArg List.length e; simp at this; subst this; simp at hn; omega
    obtain ⟨bb, oo, rfl, hbb, hc⟩ := hr hne
    obtain rfl : pt = o := by omega
    have hr := run_copyN (P := Try.prog) w 22 22 ty 5 g pt n cap ⟨bb, oo, none⟩ n c (u8s row).toArray 5 (u8s b) 1 n Try.underlying22 info5s hm hB (by simp [hn]) (fun j u hu => by rw [hadd]; exact hc j u hu) (by simp [hn]; omega) (u8s_one _)
    refine ⟨_, hr, ?_, ⟨rfl, rfl, rfl, by simp, fun k _ hk => setRow_other w g k _ (fun e => hk (by rw [e]))⟩⟩
    have hs := setRow_heap w g (u8s row).toArray (((u8s row).toArray.toList.take pt ++ u8s b ++ (u8s row).toArray.toList.drop (pt + (u8s b).length)).toArray) 5 (0, 0) hB
    unfold Blk
    rw [hs]
    simp [putX, List.map_take, List.map_drop]
theorem writeX_eq {M : Mx} {who area : Int} {k : Nat} (hk : rowI M who area = some k) (pt : Nat) (b : List Int) : writeX M who area pt b = if pt + b.length ≤ (rowL M k).length then (if k = 1 ∧ b ≠ [] then (M, 81) else (setR M k (putX (rowL M k) pt b), 0)) else (M, 80) := by
  unfold writeX
  rw [hk]
set_option maxHeartbeats 2000000 in
theorem write_any {w : World} {L T m : Nat} {M : Mx} (h : MAt w L T m M) {who : Int} (hw : who = 1 ∨ who = 2) {area : Int} (ha : 0 ≤ area ∧ area < 256) {pt n c : Nat} (hp : pt < 4294967296) {A : Option Addr} {b : List Int} (hn : b.length = n) (hn6 : n ≤ 1000000) (hr : Rd w w.heap.size A (u8s b)) (hA : A = none → n = 0 ∧ c = 0) :
    Calls Try.prog 15 #[.pointer (some ⟨m, 0, none⟩), .int .u8 who, .int .u8 area, .int .u32 pt, .slice A n c] w fun e w' => e = .returned (.int .i64 (writeX M who area pt b).2) ∧ MAt w' L T m (writeX M who area pt b).1 ∧ ChR L [] L T w w' := by
  by_cases hno : ∀ k, rowI M who area = some k → (rowL M k).length < pt + n
  · have hX : writeX M who area pt b = (M, 80) := by
      cases hk : rowI M who area with
      | none => unfold writeX; rw [hk]
      | some k => rw [writeX_eq hk, if_neg (by have := hno k hk; omega)]
    rw [hX]
    have PC := Lib.hid (part_no h hw ha hp hn6 hno)
    have HM := Lib.hid h
    clear h hno hX hp hn6 hr hn
    go_enter Try.func15, Try.ntmps15
    go_wp2_with fail
    refine PC.out.mono ?_
    rintro e w' ⟨rfl, rfl⟩
    clear PC
    go_wp2_with fail
    go_ret
    exact ⟨rfl, HM.out, ChR.refl _ _ _ _ _⟩
  · obtain ⟨k, hk, hf⟩ : ∃ k, rowI M who area = some k ∧ pt + n ≤ (rowL M k).length := by
      cases hk : rowI M who area with
      | none => exact absurd (fun k hk' => by rw [hk] at hk'; cases hk') hno
      | some k => exact ⟨k, rfl, Classical.byContradiction fun hc => hno fun k' hk' => by rw [hk] at hk'; injection hk' with hk'; subst hk'; omega⟩
    have hX := writeX_eq hk pt b
    rw [if_pos (by omega)] at hX
    obtain ⟨g, hG, hC⟩ := part_yes h hw hk hf
    have PC := Lib.hid hC
    have HM := Lib.hid h
    have hk2 := (row_len h hk).2
    rcases (by omega : (k = 1 ∧ 0 < n) ∨ ((k ≠ 1) ∨ n = 0)) with ⟨hk1, h0⟩ | hk1
    · rw [if_pos ⟨hk1, fun e => by rw [e] at hn; simp at hn; omega⟩] at hX
      rw [hX]
      subst hk1
      have h0I : (0 : Int) < n := by omega
      clear h hno hX hp hn6 hr hn hC hG hf
      go_enter Try.func15, Try.ntmps15
      go_wp2_with fail
      refine PC.out.mono ?_
      rintro e w' ⟨⟨o, rfl, ho⟩, rfl⟩
      clear PC
      go_wp2_with fail
      go_ret
      exact ⟨rfl, HM.out, ChR.refl _ _ _ _ _⟩
    · rw [if_neg (fun hh => by
        rcases hk1 with h1 | h1
        · exact h1 hh.1
        · exact hh.2 (List.eq_nil_of_length_eq_zero (by omega)))] at hX
      rw [hX]
      have CP := Lib.hid (fun o (ho : o = pt ∨ n = 0) => copy_row hG.b (cap := (rowL M k).length - pt) hn hf ho hr hA 3)
      have FIN : Hid (∀ w', Blk w' g 5 (u8s (putX (rowL M k) pt b)).toArray → w.grownBy w' (some g) → MAt w' L T m (setR M k (putX (rowL M k) pt b)) ∧ ChR L [] L T w w') := Lib.hid fun w' hB hg => ⟨hG.set_ w' _ (putX_len (by omega)) hg hB, ChR.grown hg hG.i.1 (.inl hG.i)⟩
      have hkk : (k == 1) = false ∨ ((k == 1) = true ∧ n = 0) := by
        rcases hk1 with h1 | h1
        · exact .inl (by simpa using h1)
        · cases hq : (k == 1)
          · exact .inl rfl
          · exact .inr ⟨rfl, h1⟩
      obtain ⟨q, hq⟩ : ∃ q, (rowL M k).length - pt = q := ⟨_, rfl⟩
      obtain ⟨kb, hkb⟩ : ∃ kb, (k == 1) = kb := ⟨_, rfl⟩
      rw [hkb] at hkk
      clear h hno hX hp hn6 hr hn hC hG hf hk1 hk2
      go_enter Try.func15, Try.ntmps15
      go_wp2_with fail
      refine PC.out.mono ?_
      rintro e w' ⟨⟨o, rfl, ho⟩, rfl⟩
      obtain ⟨w2, hc2, hB2, hg2⟩ := CP.out o ho
      have HF := Lib.hid (FIN.out w2 hB2 hg2)
      rw [hkb]
      rw [hq] at hc2 ⊢
      clear PC CP FIN hB2 hg2 hkb hq HM ho
      rcases hkk with rfl | ⟨rfl, rfl⟩
      all_goals
        go_wp2_with (at_builtin; refine wpList_cp _ rfl (.tmp 36) (.tmp 37) 22 22 rfl _ _ rfl rfl hc2 ?_)
        go_ret
        exact ⟨rfl, HF.out.1, HF.out.2⟩
end Go.Proofs.Yteecgdbicokgoaa
