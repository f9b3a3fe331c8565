/- split.Read: the commands that read. -/
import Derived.Test.YteecgdbicokgoaaP3
namespace Go.Proofs.Yteecgdbicokgoaa
open Go.RowKit Go.Shelf
set_option linter.unusedVariables false
set_option linter.unusedSimpArgs false
set_option maxRecDepth 100000
theorem sread_no {w : World} {pt area : Int} (hp : 0 ≤ pt ∧ pt < 4294967296) {n : Nat} (hn : n ≤ 1000000) (h : fitsN pt n = false) :
    Calls Try.prog 16 #[.int .u8 area, .int .u32 pt, .int .i64 n] w fun e w' => e = .returned (.tuple #[.slice none 0 0, .int .i64 1]) ∧ w = w' := by
  have SF := Lib.hid (sfits_any hp n hn)
  rw [h] at SF
  clear hp h
  go_enter Try.func16, Try.ntmps16
  go_wp2_with fail
  refine (SF.out _).mono ?_
  rintro e w' ⟨rfl, rfl⟩
  go_wp2_with fail
  go_ret2
  exact ⟨rfl, rfl⟩
/-- The k-th command of Read. -/
def rdC (area pt : Int) (n k : Nat) : Cm := cmL 7 [((min 7 (n - 7 * k) : Nat) : Int), area] (pt + (7 * k : Nat))
def rdL (area pt : Int) (n : Nat) (k : Nat) : List Cm := (List.range k).map (rdC area pt n)
theorem rdL_snoc (area pt : Int) (n k : Nat) : rdL area pt n (k + 1) = rdL area pt n k ++ [rdC area pt n k] := by
  simp [rdL, List.range_succ]
abbrev cmcells (l : List Cm) : List Value := flatC Cm.cs l
theorem cmcells_snoc (l : List Cm) (x : Cm) : cmcells (l ++ [x]) = cmcells l ++ x.cs := by
  unfold cmcells
  rw [flatC_app]
  simp [flatC]
set_option maxHeartbeats 4000000 in
theorem sread_ok {w : World} {pt area : Int} (hp : 0 ≤ pt ∧ pt < 4294967296) {n : Nat} (h : fitsN pt n = true) :
    Calls Try.prog 16 #[.int .u8 area, .int .u32 pt, .int .i64 n] w fun e w' => ∃ A c, e = .returned (.tuple #[.slice A (parN 7 n) c, .int .i64 0]) ∧ Own w' w.heap.size 35 8 A (parN 7 n) c (cmcells (rdL area pt n (parN 7 n))) ∧ Below w.heap.size w w' := by
  have hn2 : 1 ≤ n ∧ n ≤ 112 ∧ pt + n ≤ 4294967296 := by unfold fitsN at h; exact of_decide_eq_true h
  have SF := Lib.hid (sfits_any hp n (by omega))
  rw [h] at SF
  have HN := Lib.hid (And.intro hp hn2)
  clear hp h hn2
  go_enter Try.func16, Try.ntmps16
  go_wp2_with fail
  refine (SF.out _).mono ?_
  rintro e w' ⟨rfl, rfl⟩
  have HO := Lib.hid (Own.nil w w.heap.size 35 8)
  have HB := Lib.hid (Below.refl w.heap.size w)
  clear SF
  go_wp2_with fail
  go_loopw [1, 2, 8] (fun at_ lf rw_ wr => ∃ (k : Nat) (A : Option Addr) (c : Nat), k ≤ parN 7 n ∧ at_ = .int .u32 (IntKind.u32.wrap (pt + (min (7 * k) n : Nat))) ∧ lf = .int .i64 ((n - 7 * k : Nat) : Int) ∧ rw_ = .slice A k c ∧ Own wr w.heap.size 35 8 A k c (cmcells (rdL area pt n k)) ∧ Below w.heap.size w wr) (fun _ lf _ _ => (intOf lf).toNat)
  case atStart =>
    refine ⟨0, none, 0, Nat.zero_le _, ?_, by simp, rfl, HO.out, HB.out⟩
    have h1 := HN.out.1
    rw [show pt + ((min (7 * 0) n : Nat) : Int) = pt by simp, IntWalk.u32_in pt (by omega)]
  case round =>
    obtain ⟨k, A, c, hk, rfl, rfl, rfl, ho, hb⟩ := hrel
    have hz := hb.size
    have hn := HN.out
    by_cases hlt : 7 * k < n
    · obtain ⟨q, hq⟩ : ∃ q, n - 7 * k = q := ⟨_, rfl⟩
      obtain ⟨a, ha⟩ : ∃ a, pt + (7 * k : Nat) = a := ⟨_, rfl⟩
      have e1 : IntKind.u32.wrap (pt + (min (7 * k) n : Nat)) = a := by
        rw [Nat.min_eq_left (by omega), ha]
        exact IntWalk.u32_in _ (by omega)
      rw [e1, hq]
      obtain ⟨mm, hmm⟩ : ∃ mm, min 7 q = mm := ⟨_, rfl⟩
      have hcs : (q ≤ 7 ∧ q = mm) ∨ (7 < q ∧ mm = 7) := by omega
      have hu5 : IntKind.u8.wrap (mm : Int) = mm := IntWalk.u8_in _ (by omega)
      have hu33 : IntKind.u32.wrap (mm : Int) = mm := IntWalk.u32_in _ (by omega)
      have hsub : IntKind.i64.wrap ((q : Int) - mm) = ((n - 7 * (k + 1) : Nat) : Int) := by rw [IntWalk.i64_in _ (by omega)]; omega
      have hat : IntKind.u32.wrap (a + (mm : Int)) = IntKind.u32.wrap (pt + (min (7 * (k + 1)) n : Nat)) := by
        congr 1
        omega
      have hcm : rdC area pt n k = cmL 7 [(mm : Int), area] a := by unfold rdC; rw [hq, hmm, ha]
      obtain ⟨at2, hat2⟩ : ∃ x, IntKind.u32.wrap (pt + (min (7 * (k + 1)) n : Nat)) = x := ⟨_, rfl⟩
      rw [hat2] at hat
      obtain ⟨y, hy⟩ : ∃ y, cmL 7 [(mm : Int), area] a = y := ⟨_, rfl⟩
      have GR := Lib.hid (great_any (k := 7) (v := a) (xs := [(mm : Int), area]) (n := 2) (c := 2) rfl (by decide) (by decide) (Blk.rd (cs := [.int .u8 mm, .int .u8 area]) (Blk.new wr 5 #[.int .u8 mm, .int .u8 area])))
      rw [hy] at GR
      have hsn : cmcells (rdL area pt n k) ++ y.cs = cmcells (rdL area pt n (k + 1)) := by rw [rdL_snoc, cmcells_snoc, hcm, hy]
      have hmeas : n - 7 * (k + 1) < q := by omega
      have hk1 : k + 1 ≤ parN 7 n := by unfold parN; omega
      have hsm : k ≤ 1000 := by unfold parN at hk; omega
      have HH := Lib.hid (And.intro ho (And.intro hb (And.intro hat2 (And.intro hsn (And.intro hmeas (And.intro hk1 (And.intro hz hsm)))))))
      have hqI : (q : Int) ≤ 112 := by omega
      have hq0 : (0 : Int) < q := by omega
      have HN2 : Hid (((n - 7 * (k + 1) : Nat) : Int) = (q : Int) - mm) := Lib.hid (by omega)
      clear ho hb hat2 hsn hmeas hk1 hz hsm hcm hy ha hq hk hn e1 hlt
      obtain ⟨nl, hnl⟩ : ∃ nl, ((n - 7 * (k + 1) : Nat) : Int) = nl := ⟨_, rfl⟩
      rw [hnl] at hsub
      have HNL := Lib.hid hnl
      clear hnl
      rcases hcs with ⟨h7, rfl⟩ | ⟨h7, rfl⟩
      · have h7I : (q : Int) ≤ 7 := by omega
        clear hmm
        go_wp2_with fail
        refine GR.out.mono ?_
        rintro e w2 ⟨rfl, hb2⟩
        have hb12 : Below wr.heap.size wr w2 := (bl1 wr _).trans (hb2.mono (bl1 wr _).size)
        have ho3 := (HH.out.1.below hb12).alloc (.cells y.cs.toArray 35)
        have hr3 := Blk.rd (cs := y.cs) (Blk.new w2 35 y.cs.toArray)
        have hbw : Below w.heap.size w (w2.alloc (.cells y.cs.toArray 35)) := (HH.out.2.1.trans (hb12.mono HH.out.2.1.size)).alloc (Nat.le_trans HH.out.2.1.size hb12.size) _
        have hm1 : k + 1 ≤ maxLen := by have := HH.out.2.2.2.2.2.2.2; unfold maxLen; omega
        have hm2 : (k + 1) * 40 ≤ 140737488355328 := by have := HH.out.2.2.2.2.2.2.2; omega
        have HA := Lib.hid (And.intro ho3 (And.intro hr3 (And.intro hbw (And.intro hm1 hm2))))
        clear ho3 hr3 hbw hm1 hm2 hb12 hb2 GR
        go_wp2_with (at_builtin; refine wpList_app _ rfl (.tmp 18) (.tmp 25) 36 rfl w.heap.size 35 (.agg #[.int .u8 0, .int .u8 0, .int .u8 0, .int .u8 0, .int .u8 0, .int .u8 0, .int .u32 0, .slice none 0 0]) 8 40 Try.underlying36 info35 rfl (by decide) A k c _ rfl HA.out.1 _ _ 1 1 y.cs rfl rfl HA.out.2.1 (by simp [Cm.cs, Value.oneCell']) HA.out.2.2.2.1 HA.out.2.2.2.2 HA.out.2.2.1.size ?_; intro A4 c4 w4 hown4 hg4 hbk4)
        go_roundw
        case rel =>
          refine ⟨k + 1, A4, c4, HH.out.2.2.2.2.2.1, by rw [HH.out.2.2.1], (by have h2 := HNL.out; have h3 := HN2.out; exact congrArg (Value.int .i64) (by omega)), rfl, by rw [← HH.out.2.2.2.1]; exact hown4, bel_grown' HA.out.2.2.1 HA.out.2.2.1.size HA.out.1 hg4⟩
        case measure =>
          have h1 := HH.out.2.2.2.2.1
          have h2 := HNL.out
          simp [intOf]
          omega
      · have h7I : (7 : Int) < q := by omega
        clear hmm
        simp only [show ((7 : Nat) : Int) = 7 from rfl] at GR hu5 hu33 hsub hat
        go_wp2_with fail
        refine GR.out.mono ?_
        rintro e w2 ⟨rfl, hb2⟩
        have hb12 : Below wr.heap.size wr w2 := (bl1 wr _).trans (hb2.mono (bl1 wr _).size)
        have ho3 := (HH.out.1.below hb12).alloc (.cells y.cs.toArray 35)
        have hr3 := Blk.rd (cs := y.cs) (Blk.new w2 35 y.cs.toArray)
        have hbw : Below w.heap.size w (w2.alloc (.cells y.cs.toArray 35)) := (HH.out.2.1.trans (hb12.mono HH.out.2.1.size)).alloc (Nat.le_trans HH.out.2.1.size hb12.size) _
        have hm1 : k + 1 ≤ maxLen := by have := HH.out.2.2.2.2.2.2.2; unfold maxLen; omega
        have hm2 : (k + 1) * 40 ≤ 140737488355328 := by have := HH.out.2.2.2.2.2.2.2; omega
        have HA := Lib.hid (And.intro ho3 (And.intro hr3 (And.intro hbw (And.intro hm1 hm2))))
        clear ho3 hr3 hbw hm1 hm2 hb12 hb2 GR
        go_wp2_with (at_builtin; refine wpList_app _ rfl (.tmp 18) (.tmp 25) 36 rfl w.heap.size 35 (.agg #[.int .u8 0, .int .u8 0, .int .u8 0, .int .u8 0, .int .u8 0, .int .u8 0, .int .u32 0, .slice none 0 0]) 8 40 Try.underlying36 info35 rfl (by decide) A k c _ rfl HA.out.1 _ _ 1 1 y.cs rfl rfl HA.out.2.1 (by simp [Cm.cs, Value.oneCell']) HA.out.2.2.2.1 HA.out.2.2.2.2 HA.out.2.2.1.size ?_; intro A4 c4 w4 hown4 hg4 hbk4)
        go_roundw
        case rel =>
          refine ⟨k + 1, A4, c4, HH.out.2.2.2.2.2.1, by rw [HH.out.2.2.1], (by have h2 := HNL.out; have h3 := HN2.out; exact congrArg (Value.int .i64) (by omega)), rfl, by rw [← HH.out.2.2.2.1]; exact hown4, bel_grown' HA.out.2.2.1 HA.out.2.2.1.size HA.out.1 hg4⟩
        case measure =>
          have h1 := HH.out.2.2.2.2.1
          have h2 := HNL.out
          simp [intOf]
          omega
    · obtain rfl : k = parN 7 n := by unfold parN at hk ⊢; omega
      have hq : n - 7 * parN 7 n = 0 := by unfold parN; omega
      rw [hq]
      have HO := Lib.hid (And.intro ho hb)
      clear ho hb hk hlt hn hz
      generalize IntKind.u32.wrap (pt + (min (7 * parN 7 n) n : Nat)) = at1
      go_wp2_with fail
      go_ret2
      exact ⟨A, c, rfl, HO.out.1, HO.out.2⟩
end Go.Proofs.Yteecgdbicokgoaa
