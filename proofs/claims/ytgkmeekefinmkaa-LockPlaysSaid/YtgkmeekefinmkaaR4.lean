/- The reference's Unlock, where a part of a key is taken. -/
import Derived.Test.YtgkmeekefinmkaaR3
namespace Go.Proofs.Ytgkmeekefinmkaa
open Go.RowKit
set_option linter.unusedVariables false
set_option linter.unusedSimpArgs false
def runX (a : LX) (d : Sd) (xs : List Int) : LX × Int :=
  if (d.came ++ xs).length < d.s.length then ({ a with out := some { d with came := d.came ++ xs } }, 0)
  else if d.came ++ xs = keyL d.s d.of then (⟨a.all, a.shut - bits .and .u8 a.shut d.of, none⟩, 0) else ({ a with out := none }, 91)
set_option maxRecDepth 100000 in
set_option maxHeartbeats 8000000 in
theorem runlock_yes {w : World} {B q : Nat} {a : LX} (h : RAt w B q a) (hB0 : B ≤ w.heap.size) (d : Sd) (ho : a.out = some d) (A : Option Addr) (n c : Nat) (xs : List Int) (hx : xs.length = n) (hr : Rd w w.heap.size A (u8s xs)) (hu : by8 xs)
    (ht : d.told = d.s.length) (K : Nat) (hK : d.s.length - d.came.length = K) (hn : (n : Int) = min (K : Int) 6) :
    Calls Try.prog 17 #[.pointer (some ⟨q, 0, none⟩), .int .i64 K, .slice A n c] w (RUnP w B q (runX a d xs)) := by
  have hok := h.2.1.out d ho
  have h3 := h.2.2
  rw [ho] at h3
  obtain ⟨A1, c1, A3, c3, hB, ⟨⟨a1, rfl⟩, g3, g4⟩, g5⟩ := h3
  have h20 := hok.s2
  have hcl := hok.c
  rw [ht] at hB
  obtain ⟨N, hN⟩ : ∃ N, d.s.length = N := ⟨_, rfl⟩
  obtain ⟨M, hM⟩ : ∃ M, d.came.length = M := ⟨_, rfl⟩
  rw [hN] at hB h20 hcl hK
  rw [hM] at hB hcl hK
  have HN := Lib.hid hN
  have HM := Lib.hid hM
  have HX := Lib.hid hx
  have c2 : w.cell? ⟨q, 2, none⟩ = some (.slice (some a1) N c1) := (hB.cell 2).trans rfl
  have c4 : w.cell? ⟨q, 4, none⟩ = some (.int .i64 N) := (hB.cell 4).trans rfl
  have c5 : w.cell? ⟨q, 5, none⟩ = some (.slice A3 M c3) := (hB.cell 5).trans rfl
  have he := fun w => Lib.run_eql_slice_nil (P := Try.prog) w 22 5 (some a1) N c1 0 0 Try.underlying22
  have hsub : IntKind.i64.wrap ((N : Int) - (M : Int)) = (K : Int) := by rw [IntKind.wrap_i64]; omega
  have hK1 : 1 ≤ K := by omega
  have hKN : M + K = N := by omega
  have hn1 : 1 ≤ n := by omega
  have b1 : ((N : Int) != (N : Int)) = false := by simp
  have b2 : ((K : Int) != (K : Int)) = false := by simp
  have b4 : ((n : Int) != (n : Int)) = false := by simp
  have hnK : n ≤ K := by omega
  have HR := Lib.hid h
  have HB := Lib.hid hB
  have HO := Lib.hid ho
  have G4 := Lib.hid g4
  have G5 := Lib.hid g5
  have HRX := Lib.hid hr
  have HK := Lib.hid hK
  have HOK := Lib.hid hok
  have HT := Lib.hid ht
  clear hN hM hx hok ho hB g4 g5 ht g3 hr h hK
  by_cases h6 : (K : Int) ≤ 6
  case' pos =>
    obtain rfl : n = K := by omega
  case' neg =>
    have h6' : (6 : Int) < K := by omega
    obtain rfl : n = 6 := by omega
    have b3 : ((6 : Int) != (6 : Int)) = false := by simp
  all_goals
    clear hn
    go_enter Try.func17, Try.ntmps17
    go_wp2_with fail
    go_quiet (fail)
    have hbW : Below w.heap.size w (w.drewN nq) := bel_drewN (Below.refl _ _) nq
    generalize w.drewN nq = W at *
    have hzW := hbW.size
    have HBW := Lib.hid (HB.out.below hbW)
    have GW5 := Lib.hid (G5.out.below hbW)
    have bc5 : (W.alloc (.cells #[] 5)).cell? ⟨q, 5, none⟩ = some (.slice A3 M c3) := ((HBW.out.alloc _).cell 5).trans rfl
    have HL3 : Hid ((u8s d.came).length = M * 1) := Lib.hid (by rw [List.length_map, HM.out]; omega)
    have hc3 := GW5.out.2.2.1
    have hxn := HX.out
    obtain ⟨S, hS⟩ : ∃ S, M + xs.length = S := ⟨_, rfl⟩
    rw [hxn] at hS
    have HS := Lib.hid hS
    have hSN : S ≤ N := by omega
    have HKN := Lib.hid hKN
    clear hS hxn he c2 c4 c5 hsub hKN
    have HLX : Hid ((u8s xs).length = xs.length * 1) := Lib.hid (by simp)
    rw [HX.out] at HLX
    go_upto_region 5 with (first
      | (refine wpList_app _ rfl (.tmp 50) (.tmp 54) 22 rfl W.heap.size 5 (.int .u8 0) 1 1 Try.underlying22 info5 rfl (by decide) _ 0 0 [] rfl (fr5 W) W.heap.size A3 M c3 (u8s d.came) rfl HL3.out (GW5.out.rd.below (bl1 W _)) (u8s_one _) (by unfold maxLen; omega) (by omega) (by simp) ?_
         intro A5 d5 w5 ho5 hg5 hbk5
         have hb5 : Below W.heap.size W w5 := bel_app (bl1 W _) (fr5 W) (Nat.le_refl _) hg5
         have ho5' : Own w5 W.heap.size 5 1 A5 M d5 (u8s d.came) := by simpa only [Nat.zero_add, List.nil_append] using ho5
         clear ho5 hg5 hbk5 bc5)
      | (refine wpList_app _ rfl (.tmp 55) (.tmp 56) 22 rfl W.heap.size 5 (.int .u8 0) 1 1 Try.underlying22 info5 rfl (by decide) _ M d5 (u8s d.came) rfl ho5' W.heap.size A _ c (u8s xs) rfl HLX.out (((HRX.out.below hbW).more hzW).below hb5) (u8s_one _) (by unfold maxLen; omega) (by omega) hb5.size ?_
         intro A6 d6 w6 ho6 hg6 hbk6
         have hb6 : Below W.heap.size W w6 := bel_app hb5 ho5' (Nat.le_refl _) hg6
         rw [HS.out] at ho6
         have B6 := HBW.out.below hb6
         have b6f := B6.frozen
         have b6c := B6.cell
         clear hg6 hbk6 ho5'))
    rw [HS.out]
    refine wp_named fun W7 hW7 => ?_
    have B7 := B6.set_ 5 (.slice A6 S d6)
    rw [← hW7] at B7
    have hq6 : blkOf A6 ≠ some q := fun e => own_blk_ne ho6 B6 (by decide) e.symm
    have ho7 := ho6.far (p := ⟨q, 5, none⟩) hq6 (.slice A6 S d6)
    rw [← hW7] at ho7
    have hc7 := (ChT.of_below ((hbW.trans (hb6.mono hzW))) B [41]).set_ (o := 5) B6 (by simp) HR.out.1 (.slice A6 S d6)
    rw [← hW7] at hc7
    have hg4 := (((G4.out.below hbW).below hb6).far (p := ⟨q, 5, none⟩) (fun e => own_blk_ne ((G4.out.below hbW).below hb6) B6 (by decide) e.symm) (.slice A6 S d6))
    rw [← hW7] at hg4
    have hok := HR.out.2.1
    have c2 : W7.cell? ⟨q, 2, none⟩ = some (.slice (some a1) N c1) := (B7.cell 2).trans rfl
    have c5 : W7.cell? ⟨q, 5, none⟩ = some (.slice A6 S d6) := (B7.cell 5).trans rfl
    have HC7 := Lib.hid hc7
    have HO7 := Lib.hid ho7
    have HG4 := Lib.hid hg4
    have HB7 := Lib.hid B7
    clear B6 b6f b6c hW7 B7 hq6 ho7 hc7 hg4 ho6 hb5 hb6 hbW
  · have hlt : (S : Int) < N := by have := HS.out; have := HKN.out; omega
    go_wp2_with fail
    go_quiet (fail)
    go_wp2_with fail
    go_ret
    have hrx : runX a d xs = ({ a with out := some { d with came := d.came ++ xs } }, 0) := by
      unfold runX
      rw [if_pos]
      rw [List.length_append, HM.out, HX.out, HN.out]
      have := HS.out
      have := HKN.out
      omega
    rw [hrx]
    have hd := HOK.out
    have hcat : (d.came ++ xs).length = S := by rw [List.length_append, HM.out, HX.out]; exact HS.out
    have hbe := bel_drewN (Below.refl W7.heap.size W7) nq
    refine ⟨rfl, ⟨HR.out.1, ⟨hok.a0, hok.a1, hok.s0, hok.s1, fun d' hd' => ?_⟩, some a1, c1, A6, d6, ?_, ⟨⟨_, rfl⟩, rfl, ?_⟩, ?_⟩, HC7.out.grow hbe⟩
    · injection hd' with hd'
      subst hd'
      refine ⟨hd.s1, hd.s2, hd.t, ?_, hd.o, hd.b, fun x hx => ?_⟩
      · show (d.came ++ xs).length < d.s.length
        rw [hcat, HN.out]
        have := HS.out
        have := HKN.out
        omega
      · rcases List.mem_append.1 hx with hx | hx
        · exact hd.cb x hx
        · exact hu x hx
    · show Blk _ q 41 #[_, _, .slice (some a1) d.s.length c1, .int .u8 d.of, .int .i64 d.told, .slice A6 (d.came ++ xs).length d6]
      rw [hcat, HT.out, HN.out]
      exact HB7.out.below hbe
    · exact HG4.out.below hbe
    · show Own _ 0 5 1 A6 (d.came ++ xs).length d6 (u8s (d.came ++ xs))
      rw [hcat, show u8s (d.came ++ xs) = u8s d.came ++ u8s xs from List.map_append]
      exact (HO7.out.below hbe).more (Nat.zero_le _)
  · obtain rfl : S = N := by have := HS.out; have := HKN.out; omega
    have c3' : W7.cell? ⟨q, 3, none⟩ = some (.int .u8 d.of) := (HB7.out.cell 3).trans rfl
    have c1' : W7.cell? ⟨q, 1, none⟩ = some (.int .u8 a.shut) := (HB7.out.cell 1).trans rfl
    go_wp2_with fail
    go_quiet (fail)
    go_wp2_with fail
    have hbe := bel_drewN (Below.refl W7.heap.size W7) nq
    have c2 : (W7.drewN nq).cell? ⟨q, 2, none⟩ = some (.slice (some a1) S c1) := c2
    have c5 : (W7.drewN nq).cell? ⟨q, 5, none⟩ = some (.slice A6 S d6) := c5
    have c3' : (W7.drewN nq).cell? ⟨q, 3, none⟩ = some (.int .u8 d.of) := c3'
    have c1' : (W7.drewN nq).cell? ⟨q, 1, none⟩ = some (.int .u8 a.shut) := c1'
    generalize W7.drewN nq = W8 at *
    have HB8 := Lib.hid (HB7.out.below hbe)
    have HO8 := HO7.out.below hbe
    have HG8 := HG4.out.below hbe
    rw [HN.out] at HG8
    have HC8 := Lib.hid (HC7.out.grow hbe)
    have hz8 := hbe.size
    have hq8 := HB8.out.lt
    have hcat : (d.came ++ xs).length = S := by rw [List.length_append, HM.out, HX.out]; exact HS.out
    have hcb : by8 (d.came ++ xs) := fun x hx => by
      rcases List.mem_append.1 hx with hx | hx
      · exact HOK.out.cb x hx
      · exact hu x hx
    have hkb : by8 (keyL d.s d.of) := keyL_by _ _ HOK.out.b
    have hof := HOK.out.o
    obtain ⟨r0, r1⟩ : 0 ≤ d.of ∧ d.of < 256 := by
      rcases (isRes_iff d.of).1 hof with e | e | e <;> rw [e] <;> decide
    have hbb := bstr_beq (d.came ++ xs) (keyL d.s d.of) hcb hkb
    rw [show u8s d.came ++ u8s xs = u8s (d.came ++ xs) from List.map_append.symm] at HO8
    have CV := HO8.conv (P := Try.prog) (src := 22) (dst := 9) Try.underlying22 Try.underlying5 Try.underlying9 hcat.symm
    obtain ⟨s1, hs1⟩ : ∃ s1, bstr (d.came ++ xs) = s1 := ⟨_, rfl⟩
    obtain ⟨s2, hs2⟩ : ∃ s2, bstr (keyL d.s d.of) = s2 := ⟨_, rfl⟩
    rw [hs1] at CV hbb
    rw [hs2] at hbb
    obtain ⟨bb, hbd⟩ : ∃ bb, decide (d.came ++ xs = keyL d.s d.of) = bb := ⟨_, rfl⟩
    rw [hbd] at hbb
    have HS2 := Lib.hid hs2
    have HBD := Lib.hid hbd
    have HCAT := Lib.hid hcat
    have KEY : Hid (∀ W', Below W8.heap.size W8 W' → Calls Try.prog 18 #[.slice (some a1) S c1, .int .u8 d.of] W' (RetB W' (keyL d.s d.of) S)) := Lib.hid fun W' hb => rkey_any (some a1) S c1 d.s d.of W' HN.out ((HG8.below hb).rd) (by omega) r0 r1
    have R2 : ∀ w', Below W8.heap.size W8 w' → w'.cell? ⟨q, 2, none⟩ = some (.slice (some a1) S c1) := fun w' hb => (hb.cell (p := ⟨q, 2, none⟩) hq8).trans c2
    have R3 : ∀ w', Below W8.heap.size W8 w' → w'.cell? ⟨q, 3, none⟩ = some (.int .u8 d.of) := fun w' hb => (hb.cell (p := ⟨q, 3, none⟩) hq8).trans c3'
    have R5 : ∀ w', Below W8.heap.size W8 w' → w'.cell? ⟨q, 5, none⟩ = some (.slice A6 S d6) := fun w' hb => (hb.cell (p := ⟨q, 5, none⟩) hq8).trans c5
    have hok8 := HR.out.2.1
    clear hs1 hs2 hbd hcat HO8 HG8 c2 c5 c3' c1' hof hcb hkb
    have hrx : Hid (runX a d xs = if bb = true then (⟨a.all, a.shut - bits .and .u8 a.shut d.of, none⟩, 0) else ({ a with out := none }, 91)) := Lib.hid (by
      unfold runX
      rw [if_neg (by rw [HCAT.out, HN.out]; omega)]
      have := HBD.out
      by_cases e : d.came ++ xs = keyL d.s d.of
      · rw [if_pos e]
        rw [decide_eq_true e] at this
        rw [← this]
        rfl
      · rw [if_neg e]
        rw [decide_eq_false e] at this
        rw [← this]
        rfl)
    cases bb
    case' false =>
      have _ := trivial
    all_goals
      go_region_held (fun w' => Below W8.heap.size W8 w') (first | exact Below.refl _ _ | exact (Below.refl _ _).drew | exact bel2 (by assumption) (by assumption) | exact bel2 (Below.refl _ _).drew (by assumption))
        (first | (go_at_call 18; ((with_reducible refine (KEY.out _ (by first | assumption | exact Below.refl _ _ | exact (Below.refl _ _).drew)).mono ?_); rintro e w9 ⟨A9, c9, rfl, ho9, hb9⟩; have r9 := ho9.conv (n := S) (P := Try.prog) (src := 22) (dst := 9) Try.underlying22 Try.underlying5 Try.underlying9 (by rw [keyL_len]; exact HN.out.symm); rw [HS2.out] at r9; have z9 := Below.refl w9.heap.size w9)))
      have hb10 : Below W8.heap.size W8 w9 := bel2 (Below.refl _ _).drew hb9
      have B9 : Blk w9 q 41 #[.int .u8 a.all, .int .u8 a.shut, .slice (some a1) S c1, .int .u8 d.of, .int .i64 S, .slice A6 S d6] := HB8.out.below hb10
      have hc9 := Lib.hid (HC8.out.grow hb10)
      clear R2 R3 R5 CV hbb r9 z9 ho9 hb9 KEY
    case' false =>
      have F := Lib.hid (forget_any B9)
      go_wp2_with fail
      refine F.out.mono ?_
      rintro e w10 ⟨rfl, hF, hFc⟩
      go_wp2_with fail
      go_ret
      rw [hrx.out]
      exact ⟨rfl, ⟨HR.out.1, LX.ok_none hok8, hF⟩, hc9.out.trans (hFc B HR.out.1)⟩
    case' true =>
      obtain ⟨y, hy⟩ : ∃ y, bits .and .u8 a.shut d.of = y := ⟨_, rfl⟩
      obtain ⟨z, hz⟩ : ∃ z, a.shut - y = z := ⟨_, rfl⟩
      have hcl := clr_res a.shut d.of hok8.s0 hok8.s1 HOK.out.o
      rw [hy] at hcl
      have hwz : IntKind.u8.wrap (a.shut - y) = z := by rw [IntKind.wrap_u8]; omega
      have hrx2 : Hid (runX a d xs = (⟨a.all, z, none⟩, 0)) := Lib.hid (by rw [hrx.out]; simp only [if_true, hy, hz])
      have hz01 : Hid (0 ≤ z ∧ z < 256) := Lib.hid (by omega)
      have c9f := B9.frozen
      have hq9 := B9.lt
      have e1 : w9.cell? ⟨q, 1, none⟩ = some (.int .u8 a.shut) := (B9.cell 1).trans rfl
      have e3 : w9.cell? ⟨q, 3, none⟩ = some (.int .u8 d.of) := (B9.cell 3).trans rfl
      have e1' : w9.drew.cell? ⟨q, 1, none⟩ = some (.int .u8 a.shut) := (B9.cell 1).trans rfl
      have e3' : w9.drew.cell? ⟨q, 3, none⟩ = some (.int .u8 d.of) := (B9.cell 3).trans rfl
      have c9f' := B9.drew.frozen
      have B10 := (B9.set_ 1 (.int .u8 z)).drew
      have hc10 := Lib.hid ((hc9.out.set_ (o := 1) B9 (by simp) HR.out.1 (.int .u8 z)).grow (Below.refl _ _).drew)
      have F := Lib.hid (forget_any B10)
      clear hz hcl hrx
      go_upto_region 9 with fail
      go_region
      all_goals
        go_wp2_with fail
        refine F.out.mono ?_
        rintro e w10 ⟨rfl, hF, hFc⟩
        go_wp2_with fail
        go_ret
        rw [hrx2.out]
        exact ⟨rfl, ⟨HR.out.1, ⟨hok8.a0, hok8.a1, hz01.out.1, hz01.out.2, fun d h => by cases h⟩, hF⟩, hc10.out.trans (hFc B HR.out.1)⟩
end Go.Proofs.Ytgkmeekefinmkaa
