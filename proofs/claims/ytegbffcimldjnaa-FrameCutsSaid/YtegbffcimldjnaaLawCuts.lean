import Derived.Test.YtegbffcimldjnaaPlain
namespace Go.Proofs.Ytegbffcimldjnaa
open Go.RowKit
set_option linter.unusedVariables false
set_option linter.unusedSimpArgs false

theorem mk_short (id : Int) (xs : List Int) (h : kn id false = true) (h8 : xs.length ≤ 8) : mkF id false xs = ⟨id, false, xs.length, xs⟩ ∧ mkE id false xs = 0 := by
  simp [mkF, mkE, h, h8]
theorem take_eqb (id : Int) (xs : List Int) (k : Nat) (hk : k ≤ xs.length) : Fr.eqb ⟨id, false, xs.length, xs⟩ ⟨id, false, k, xs.take k⟩ = ((k : Int) == xs.length) := by
  rcases Nat.lt_or_ge k xs.length with h | h
  · have e1 : ((k : Int) == xs.length) = false := by simp; omega
    have e2 : ((xs.length : Int) == k) = false := by simp; omega
    rw [e1]
    simp only [Fr.eqb, e2, Bool.false_and, Bool.and_false]
  · obtain rfl : k = xs.length := by omega
    rw [List.take_length]
    simp [Fr.eqb]

set_option maxHeartbeats 4000000 in
theorem cuts_any (id out : Int) (A : Option Addr) (n c : Nat) (xs : List Int) (w : World) (h0 : 0 ≤ id) (h1 : id < 65536) (ho0 : 0 ≤ out) (ho1 : out < 256) (hx : xs.length = n) (hb : Rd w w.heap.size A (u8s xs)) (hn : n ≤ c) (hl : n ≤ maxLen) (hA : A = none → n = 0 ∧ c = 0) (hu : ∀ x ∈ xs, 0 ≤ x ∧ x < 256) :
    Calls Try.prog 7 #[.int .u16 id, .slice A n c, .int .u8 out] w fun e w' => e = .returned (.bool true) ∧ Below w.heap.size w w' := by
  have hf := few_bytes A n c (xs.take 20)
  have hy : (xs.take 20).length = min n 20 := by simp [hx, Nat.min_comm]
  have hb' : Rd w w.heap.size A (u8s (xs.take 20)) := by
    have := hb.take 20
    rwa [← List.map_take] at this
  have hl' : (xs.take 20).length ≤ 20 := by rw [hy]; omega
  have hc' : (xs.take 20).length ≤ c := by rw [hy]; omega
  have hu' : ∀ x ∈ xs.take 20, 0 ≤ x ∧ x < 256 := fun x hx => hu x (List.mem_of_mem_take hx)
  have HF := fun w => Lib.hid (hf w hn hl hA hy)
  clear hx hf hy hb hu
  generalize xs.take 20 = ys at *
  have hk : kn (id % 2048) false = true := by simp [kn]; omega
  have hlm : ys.length ≤ maxLen := by unfold maxLen; omega
  by_cases h8 : ys.length ≤ 8
  · obtain ⟨eF, eE⟩ := mk_short (id % 2048) ys hk h8
    have hmod : 0 ≤ out % ((ys.length : Int) + 1) ∧ out % ((ys.length : Int) + 1) ≤ ys.length := by
      have h1 := Int.emod_nonneg out (show ((ys.length : Int) + 1) ≠ 0 by omega)
      have h2 := Int.emod_lt_of_pos out (show 0 < ((ys.length : Int) + 1) by omega)
      omega
    obtain ⟨k, hk2⟩ : ∃ k : Nat, (ys.length : Int) - out % ((ys.length : Int) + 1) = k := ⟨((ys.length : Int) - out % ((ys.length : Int) + 1)).toNat, by omega⟩
    have hkl : k ≤ ys.length := by omega
    obtain ⟨eG, eH⟩ := mk_short (id % 2048) (ys.take k) hk (by simp; omega)
    have elk : (ys.take k).length = k := by simp; omega
    have C1 : Hid (∀ W, Rd W W.heap.size A (u8s ys) → Calls Try.prog 10 #[.int .u32 (id % 2048), .bool false, .slice A ys.length c] W fun e w' => e = .returned (.tuple #[Fr.val ⟨id % 2048, false, ys.length, ys⟩, .int .i64 0]) ∧ Below W.heap.size W w') := fun W hW => by
      have := make_any (id % 2048) false A ys c W (by omega) (by omega) hW hlm
      rwa [eF, eE] at this
    have C2 : Hid (∀ W, Rd W W.heap.size A (u8s ys) → Calls Try.prog 10 #[.int .u32 (id % 2048), .bool false, .slice A k c] W fun e w' => e = .returned (.tuple #[Fr.val ⟨id % 2048, false, k, ys.take k⟩, .int .i64 0]) ∧ Below W.heap.size W w') := fun W hW => by
      have hW' : Rd W W.heap.size A (u8s (ys.take k)) := by
        have := hW.take k
        rwa [← List.map_take] at this
      have := make_any (id % 2048) false A (ys.take k) c W (by omega) (by omega) hW' (by rw [elk]; omega)
      rw [eG, eH, elk] at this
      exact this
    have f1 := mkF_wf (id % 2048) false ys (by omega) (by omega) hu'
    have f2 := mkF_wf (id % 2048) false (ys.take k) (by omega) (by omega) (fun x hx => hu' x (List.mem_of_mem_take hx))
    have m1 := (mkF_may (id % 2048) false ys eE).2.1
    have m2 := (mkF_may (id % 2048) false (ys.take k) eH).2.1
    rw [eF] at f1 m1
    rw [eG, elk] at f2 m2
    have C3 : Hid (∀ W, Calls Try.prog 17 #[Fr.val ⟨id % 2048, false, ys.length, ys⟩] W fun e w' => ∃ A c, e = .returned (.slice A ys.length c) ∧ ys.length ≤ c ∧ c ≤ maxLen ∧ (∀ w2, Below w'.heap.size w' w2 → (convert 23 9 (.slice A k c)).run Try.prog w2 = .ok (.string (bstr (ys.take k))) w2) ∧ Below W.heap.size W w') := fun W => by
      have := bytes_any ⟨id % 2048, false, ys.length, ys⟩ W f1
      rw [m1] at this
      refine this.mono ?_
      rintro e w' ⟨A, c, rfl, ho, hb⟩
      have hr : Rd w' w'.heap.size A (u8s (ys.take k)) := by
        have := ho.rd.take k
        rwa [← List.map_take] at this
      exact ⟨A, c, rfl, ho.2.1, ho.2.2.1, hr.conv Try.underlying23 Try.underlying5 Try.underlying9 (Nat.le_refl _) elk.symm, hb⟩
    have C4 : Hid (∀ W, Calls Try.prog 17 #[Fr.val ⟨id % 2048, false, k, ys.take k⟩] W fun e w' => ∃ A c, e = .returned (.slice A k c) ∧ (∀ w2, Below w'.heap.size w' w2 → (convert 23 9 (.slice A k c)).run Try.prog w2 = .ok (.string (bstr (ys.take k))) w2) ∧ Below W.heap.size W w') := fun W => by
      have := bytes_any ⟨id % 2048, false, k, ys.take k⟩ W f2
      rw [m2] at this
      refine this.mono ?_
      rintro e w' ⟨A, c, rfl, ho, hb⟩
      rw [elk]
      have hr := ho.rd
      exact ⟨A, c, rfl, hr.conv Try.underlying23 Try.underlying5 Try.underlying9 (Nat.le_refl _) elk.symm, hb⟩
    obtain ⟨E, hE⟩ : ∃ E, ((k : Int) == ys.length) = E := ⟨_, rfl⟩
    have h26 : ∀ W, (Op.equalIn 10000 26 (Fr.val ⟨id % 2048, false, ys.length, ys⟩) (Fr.val ⟨id % 2048, false, k, ys.take k⟩)).run Try.prog W = .ok E W := fun W => by
      rw [eq26_any, take_eqb _ _ _ hkl, hE]
    clear eF eE eG eH f1 f2 m1 m2
    have ELK := Lib.hid elk
    clear elk
    have h8i : (ys.length : Int) ≤ 8 := by omega
    go_enter Try.func7, Try.ntmps7
    go_wp2_with fail
    refine (shown_any _).mono ?_
    rintro e w1 ⟨rfl, hb1⟩
    go_wp2_with fail
    refine (HF _).out.mono ?_
    rintro e w' ⟨rfl, rfl⟩
    go_wp2_with fail
    refine (C1.out _ ((hb'.below hb1).more hb1.size)).mono ?_
    rintro e w2 ⟨rfl, hb2⟩
    go_wp2_with fail
    have rA : Rd w2 w2.heap.size A (u8s ys) := ((hb'.below hb1).more hb1.size |>.below hb2).more hb2.size
    refine (C2.out _ ((rA.alloc (Nat.le_refl _) _).more (Nat.le_of_lt (Blk.new w2 26 _).lt))).mono ?_
    rintro e w3 ⟨rfl, hb3⟩
    go_wp2_with fail
    refine wp_named fun W hW => ?_
    obtain ⟨B2, hbW⟩ := blk1 hW
    have B1 := (Blk.new_below hb3).below hbW
    clear hW
    have hr1 := B1.rule
    have hr2 := B2.rule
    have hw0 : Below w.heap.size w W := bel2 (bel2 hb1 hb2) (bel2 (bel1 hb3) hbW)
    clear rA
    go_region_held (fun w' => Below W.heap.size W w') (first | exact (Below.refl _ _).drew | exact bel2 (by assumption) (by assumption))
      (first
        | (go_at_call 17; (with_reducible refine (C3.out _).mono ?_); rintro e w4 ⟨A4, c4, rfl, h4, h5, r4, hb4⟩; have z4 := Below.refl w4.heap.size w4)
        | (go_at_call 17; (with_reducible refine (C4.out _).mono ?_); rintro e w5 ⟨A5, c5, rfl, r5, hb5⟩; have z5 := Below.refl w5.heap.size w5))
    all_goals
      go_wp2
      go_ret
      exact ⟨rfl, bel2 hw0 (by assumption)⟩
  · have eF : mkF (id % 2048) false ys = Fr.none_ := by simp [mkF, h8]
    have eE : mkE (id % 2048) false ys = 3 := by simp [mkE, hk, h8]
    have e0 : Fr.none_.val = .agg #[.int .u32 0, .bool false, .int .i64 0, .int .u8 0, .int .u8 0, .int .u8 0, .int .u8 0, .int .u8 0, .int .u8 0, .int .u8 0, .int .u8 0] := rfl
    have C1 : Hid (∀ W, Rd W W.heap.size A (u8s ys) → Calls Try.prog 10 #[.int .u32 (id % 2048), .bool false, .slice A ys.length c] W fun e w' => e = .returned (.tuple #[.agg #[.int .u32 0, .bool false, .int .i64 0, .int .u8 0, .int .u8 0, .int .u8 0, .int .u8 0, .int .u8 0, .int .u8 0, .int .u8 0, .int .u8 0], .int .i64 3]) ∧ Below W.heap.size W w') := fun W hW => by
      have := make_any (id % 2048) false A ys c W (by omega) (by omega) hW hlm
      rwa [eF, eE, e0] at this
    have h26 : ∀ W, (Op.equalIn 10000 26 (.agg #[.int .u32 0, .bool false, .int .i64 0, .int .u8 0, .int .u8 0, .int .u8 0, .int .u8 0, .int .u8 0, .int .u8 0, .int .u8 0, .int .u8 0]) (.agg #[.int .u32 0, .bool false, .int .i64 0, .int .u8 0, .int .u8 0, .int .u8 0, .int .u8 0, .int .u8 0, .int .u8 0, .int .u8 0, .int .u8 0])).run Try.prog W = .ok true W := fun W => by
      have := eq26_any Fr.none_ Fr.none_ W
      rw [e0] at this
      exact this
    clear eF eE
    have h8i : 8 < (ys.length : Int) := by omega
    go_enter Try.func7, Try.ntmps7
    go_wp2_with fail
    refine (shown_any _).mono ?_
    rintro e w1 ⟨rfl, hb1⟩
    go_wp2_with fail
    refine (HF _).out.mono ?_
    rintro e w' ⟨rfl, rfl⟩
    go_wp2_with fail
    refine (C1.out _ ((hb'.below hb1).more hb1.size)).mono ?_
    rintro e w2 ⟨rfl, hb2⟩
    go_wp2_with fail
    go_ret
    refine ⟨rfl, (bel2 hb1 hb2).trans ?_⟩
    go_grown
    exact Nat.le_trans hb1.size hb2.size
end Go.Proofs.Ytegbffcimldjnaa
