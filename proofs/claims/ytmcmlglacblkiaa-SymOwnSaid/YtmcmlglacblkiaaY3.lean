/- sym.Put, of the program and of the reference. -/
import Derived.Test.YtmcmlglacblkiaaY2
namespace Go.Proofs.Ytmcmlglacblkiaa
open Go.RowKit
set_option linter.unusedVariables false
set_option linter.unusedSimpArgs false
/-- The meaning's number. -/
def Sy.quo (s : Sy) (v : Int) : Int := (v - s.ad).tdiv s.mu
def Sy.putOk (s : Sy) (v : Int) : Prop := s.may = true ∧ -4611686018427387904 ≤ v ∧ v ≤ 4611686018427387904 ∧ (v - s.ad).tmod s.mu = 0 ∧ fits (s.quo v) s.wd s.sg = true
/-- A meaning as bytes. -/
def Sy.putL (s : Sy) (v : Int) : List Int := putB (IntKind.u64.wrap (s.quo v)) s.wd.toNat s.bg
open Classical in
noncomputable def Sy.putV (s : Sy) (v : Int) : Option (List Int) := if s.putOk v then some (s.putL v) else none
theorem putV_yes (s : Sy) (v : Int) (h : s.putOk v) : s.putV v = some (s.putL v) := by unfold Sy.putV; rw [if_pos h]
theorem putV_no (s : Sy) (v : Int) (h : ¬ s.putOk v) : s.putV v = none := by unfold Sy.putV; rw [if_neg h]
def PtP (w : World) (r : Option (List Int)) (e : Ending) (w' : World) : Prop := match r with
  | none => e = .returned (.tuple #[.slice none 0 0, .int .i64 1]) ∧ Below w.heap.size w w'
  | some bs => ∃ A c, e = .returned (.tuple #[.slice A bs.length c, .int .i64 0]) ∧ Own w' w.heap.size 5 1 A bs.length c (u8s bs) ∧ Below w.heap.size w w'
theorem ptp_none {w w' : World} {e : Ending} (h : e = .returned (.tuple #[.slice none 0 0, .int .i64 1])) (hb : Below w.heap.size w w') : PtP w none e w' := ⟨h, hb⟩
theorem div_law (d m : Int) (hd0 : -4611686020574871552 ≤ d) (hd1 : d ≤ 4611686020574871552) (hm0 : m ≠ 0) (hm1 : -16777216 ≤ m) (hm2 : m ≤ 16777216) :
    (-4611686020574871552 ≤ d.tdiv m ∧ d.tdiv m ≤ 4611686020574871552) ∧ (-16777216 ≤ d.tmod m ∧ d.tmod m ≤ 16777216) ∧ d.tdiv m * m = d - d.tmod m := by
  have h1 : (d.tdiv m).natAbs = d.natAbs / m.natAbs := Int.natAbs_tdiv d m
  have h2 : (d.tmod m).natAbs = d.natAbs % m.natAbs := Int.natAbs_tmod d m
  have h3 := Nat.div_le_self d.natAbs m.natAbs
  have h4 := Nat.mod_lt d.natAbs (show m.natAbs > 0 by omega)
  have h5 := Int.mul_tdiv_add_tmod d m
  rw [Int.mul_comm] at h5
  refine ⟨⟨by omega, by omega⟩, ⟨by omega, by omega⟩, by omega⟩
set_option maxHeartbeats 4000000 in
theorem sput_any (s : Sy) (v : Int) (w : World) (h : s.wf) (hv0 : -9223372036854775808 ≤ v) (hv1 : v ≤ 9223372036854775807) :
    Calls Try.prog 10 #[s.val, .int .i64 v] w (PtP w (s.putV v)) := by
  have MY := Lib.hid fun (W : World) => may_any s W h
  have BX := Blk.new w 24 s.cs
  have hno := putV_no s v
  by_cases hm : s.may = true
  case neg =>
    rw [hno (fun hh => hm hh.1)]
    have hm : s.may = false := by simpa using hm
    rw [hm] at MY
    clear hm hno
    obtain ⟨nm, ar, at_, wd, bg, sg, mu, ad⟩ := s
    go_enter Try.func10, Try.ntmps10
    go_wp2_with fail
    refine (MY.out _).mono ?_
    rintro e w1 ⟨rfl, hb1⟩
    have cT := BX.below hb1
    have cT1 := cT.cell
    have hb2 := bel1 hb1
    go_wp2_with fail
    go_ret2
    exact ptp_none rfl hb2
  case pos =>
    have hmi := (may_iff s).1 hm
    rw [hm] at MY
    by_cases hv2 : v ≤ 4611686018427387904
    case neg =>
      rw [hno (fun hh => hv2 hh.2.2.1)]
      clear hm hmi hno
      obtain ⟨nm, ar, at_, wd, bg, sg, mu, ad⟩ := s
      go_enter Try.func10, Try.ntmps10
      go_wp2_with fail
      refine (MY.out _).mono ?_
      rintro e w1 ⟨rfl, hb1⟩
      have cT := BX.below hb1
      have cT1 := cT.cell
      have hb2 := bel1 hb1
      go_wp2_with fail
      go_ret2
      exact ptp_none rfl hb2
    case pos =>
    by_cases hv3 : -4611686018427387904 ≤ v
    case neg =>
      rw [hno (fun hh => hv3 hh.2.1)]
      clear hm hmi hno
      obtain ⟨nm, ar, at_, wd, bg, sg, mu, ad⟩ := s
      go_enter Try.func10, Try.ntmps10
      go_wp2_with fail
      refine (MY.out _).mono ?_
      rintro e w1 ⟨rfl, hb1⟩
      have cT := BX.below hb1
      have cT1 := cT.cell
      have hb2 := bel1 hb1
      go_wp2_with fail
      go_ret2
      exact ptp_none rfl hb2
    case pos =>
    obtain ⟨g1, g2, g3, g4, g5, g6, g7⟩ := h
    have hdl := div_law (v - s.ad) s.mu (by omega) (by omega) hmi.2.1.1 hmi.2.1.2.1 hmi.2.1.2.2
    have hmu0 := hmi.2.1.1
    obtain ⟨D, hD⟩ : ∃ D, v - s.ad = D := ⟨_, rfl⟩
    obtain ⟨x, hX⟩ : ∃ x, D.tdiv s.mu = x := ⟨_, rfl⟩
    obtain ⟨r, hR⟩ : ∃ r, D.tmod s.mu = r := ⟨_, rfl⟩
    have hq : s.quo v = x := by unfold Sy.quo; rw [hD, hX]
    rw [hD, hX, hR] at hdl
    have hDw : IntKind.i64.wrap (v - s.ad) = D := by rw [hD, IntKind.wrap_i64]; omega
    have hXw : IntKind.i64.wrap x = x := by rw [IntKind.wrap_i64]; omega
    have hRw : IntKind.i64.wrap r = r := by rw [IntKind.wrap_i64]; omega
    have FT := Lib.hid fun (W : World) => fits_any x s.wd s.sg W (by omega) (by omega)
    obtain ⟨U, hU⟩ : ∃ U, IntKind.u64.wrap x = U := ⟨_, rfl⟩
    have hU0 : 0 ≤ U ∧ U < 18446744073709551616 := by rw [← hU, IntKind.wrap_u64]; omega
    by_cases hr0 : r = 0
    case neg =>
      rw [hno (fun hh => hr0 (by have := hh.2.2.2.1; rw [hD, hR] at this; exact this))]
      have hrb : (r != 0) = true := by simpa using hr0
      clear hm hmi hno hdl hD hq hr0 hU hU0
      obtain ⟨nm, ar, at_, wd, bg, sg, mu, ad⟩ := s
      dsimp only at hDw hX hR hmu0 g2 g3 g4 g5
      go_enter Try.func10, Try.ntmps10
      go_wp2_with fail
      refine (MY.out _).mono ?_
      rintro e w1 ⟨rfl, hb1⟩
      have cT := BX.below hb1
      have cT1 := cT.cell
      have hb2 := bel1 hb1
      go_wp2_with fail
      go_ret2
      exact ptp_none rfl hb2
    case pos =>
    subst hr0
    skip
    cases hf : fits x s.wd s.sg
    case false =>
      rw [hno (fun hh => by have := hh.2.2.2.2; rw [hq, hf] at this; cases this)]
      rw [hf] at FT
      clear hm hmi hno hdl hD hq hU hU0 hf
      obtain ⟨nm, ar, at_, wd, bg, sg, mu, ad⟩ := s
      dsimp only at hDw hX hR hmu0 FT g2 g3 g4 g5
      go_enter Try.func10, Try.ntmps10
      go_wp2_with fail
      refine (MY.out _).mono ?_
      rintro e w1 ⟨rfl, hb1⟩
      have cT := BX.below hb1
      have cT1 := cT.cell
      have hb2 := bel1 hb1
      go_wp2_with fail
      refine (FT.out _).mono ?_
      rintro e w' ⟨rfl, rfl⟩
      go_wp2_with fail
      go_ret2
      exact ptp_none rfl hb2
    case true =>
      have hpl : s.putL v = putB U s.wd.toNat s.bg := by unfold Sy.putL; rw [hq, hU]
      rw [putV_yes s v ⟨hm, hv3, hv2, by rw [hD, hR], by rw [hq]; exact hf⟩, hpl]
      rw [hf] at FT
      obtain ⟨n, hn⟩ : ∃ n : Nat, s.wd = n := ⟨s.wd.toNat, by rcases hmi.2.2 with h | h | h <;> omega⟩
      have hwn : isW (n : Int) = true := by
        rw [← hn]
        rcases hmi.2.2 with h | h | h <;> rw [h] <;> decide
      rw [hn, Int.toNat_natCast]
      rw [hn] at FT
      have PT := Lib.hid fun (W : World) => put_any none 0 0 [] U n s.bg W hwn rfl Rd.nil (by decide) hU0.1 hU0.2
      rw [List.nil_append] at PT
      clear hm hmi hno hdl hD hq hU0 hf hwn hpl
      obtain ⟨nm, ar, at_, wd, bg, sg, mu, ad⟩ := s
      dsimp only at hDw hX hR hmu0 FT PT hn g2 g3 g4 g5 ⊢
      subst hn
      go_enter Try.func10, Try.ntmps10
      go_wp2_with fail
      refine (MY.out _).mono ?_
      rintro e w1 ⟨rfl, hb1⟩
      have cT := BX.below hb1
      have cT1 := cT.cell
      have hb2 := bel1 hb1
      go_wp2_with fail
      refine (FT.out _).mono ?_
      rintro e w' ⟨rfl, rfl⟩
      go_wp2_with fail
      refine (PT.out _).mono ?_
      rintro e w2 ⟨A2, c2, rfl, ho2, hb3⟩
      have hb4 := hb2.trans (hb3.mono hb2.size)
      have ho3 := ho2.more hb2.size
      go_wp2_with fail
      go_ret2
      exact ⟨A2, c2, rfl, ho3, hb4⟩
set_option maxHeartbeats 4000000 in
theorem srput_any (s : Sy) (v : Int) (w : World) (h : s.wf) (hv0 : -9223372036854775808 ≤ v) (hv1 : v ≤ 9223372036854775807) :
    Calls Try.prog 11 #[s.val, .int .i64 v] w (PtP w (s.putV v)) := by
  have MY := Lib.hid fun (W : World) => rmay_any s W h
  have BX := Blk.new w 24 s.cs
  have hno := putV_no s v
  by_cases hm : s.may = true
  case neg =>
    rw [hno (fun hh => hm hh.1)]
    have hm : s.may = false := by simpa using hm
    rw [hm] at MY
    clear hm hno
    obtain ⟨nm, ar, at_, wd, bg, sg, mu, ad⟩ := s
    go_enter Try.func11, Try.ntmps11
    go_wp2_with fail
    refine (MY.out _).mono ?_
    rintro e w1 ⟨rfl, hb1⟩
    have cT := BX.below hb1
    have cT1 := cT.cell
    have hb2 := bel1 hb1
    go_wp2_with fail
    go_ret2
    exact ptp_none rfl hb2
  case pos =>
    have hmi := (may_iff s).1 hm
    rw [hm] at MY
    by_cases hv2 : v ≤ 4611686018427387904
    case neg =>
      rw [hno (fun hh => hv2 hh.2.2.1)]
      clear hm hmi hno
      obtain ⟨nm, ar, at_, wd, bg, sg, mu, ad⟩ := s
      go_enter Try.func11, Try.ntmps11
      go_wp2_with fail
      refine (MY.out _).mono ?_
      rintro e w1 ⟨rfl, hb1⟩
      have cT := BX.below hb1
      have cT1 := cT.cell
      have hb2 := bel1 hb1
      go_wp2_with fail
      go_ret2
      exact ptp_none rfl hb2
    case pos =>
    by_cases hv3 : -4611686018427387904 ≤ v
    case neg =>
      rw [hno (fun hh => hv3 hh.2.1)]
      clear hm hmi hno
      obtain ⟨nm, ar, at_, wd, bg, sg, mu, ad⟩ := s
      go_enter Try.func11, Try.ntmps11
      go_wp2_with fail
      refine (MY.out _).mono ?_
      rintro e w1 ⟨rfl, hb1⟩
      have cT := BX.below hb1
      have cT1 := cT.cell
      have hb2 := bel1 hb1
      go_wp2_with fail
      go_ret2
      exact ptp_none rfl hb2
    case pos =>
    obtain ⟨g1, g2, g3, g4, g5, g6, g7⟩ := h
    have hdl := div_law (v - s.ad) s.mu (by omega) (by omega) hmi.2.1.1 hmi.2.1.2.1 hmi.2.1.2.2
    have hmu0 := hmi.2.1.1
    obtain ⟨D, hD⟩ : ∃ D, v - s.ad = D := ⟨_, rfl⟩
    obtain ⟨x, hX⟩ : ∃ x, D.tdiv s.mu = x := ⟨_, rfl⟩
    obtain ⟨r, hR⟩ : ∃ r, D.tmod s.mu = r := ⟨_, rfl⟩
    have hq : s.quo v = x := by unfold Sy.quo; rw [hD, hX]
    rw [hD, hX, hR] at hdl
    have hDw : IntKind.i64.wrap (v - s.ad) = D := by rw [hD, IntKind.wrap_i64]; omega
    have hXw : IntKind.i64.wrap x = x := by rw [IntKind.wrap_i64]; omega
    have hRw : IntKind.i64.wrap r = r := by rw [IntKind.wrap_i64]; omega
    obtain ⟨Y, hY⟩ : ∃ Y, x * s.mu = Y := ⟨_, rfl⟩
    have hYw : IntKind.i64.wrap (x * s.mu) = Y := by rw [hY, IntKind.wrap_i64]; omega
    have hZw : IntKind.i64.wrap (Y + s.ad) = v - r := by rw [IntKind.wrap_i64]; omega
    have FT := Lib.hid fun (W : World) => rfits_any x s.wd s.sg W (by omega) (by omega)
    obtain ⟨U, hU⟩ : ∃ U, IntKind.u64.wrap x = U := ⟨_, rfl⟩
    have hU0 : 0 ≤ U ∧ U < 18446744073709551616 := by rw [← hU, IntKind.wrap_u64]; omega
    by_cases hr0 : r = 0
    case neg =>
      rw [hno (fun hh => hr0 (by have := hh.2.2.2.1; rw [hD, hR] at this; exact this))]
      obtain ⟨T, hT⟩ : ∃ T, v - r = T := ⟨_, rfl⟩
      rw [hT] at hZw
      have hrb : (T != v) = true := by rw [bne_iff_ne]; omega
      clear hY hT
      clear hm hmi hno hdl hD hq hr0 hU hU0
      obtain ⟨nm, ar, at_, wd, bg, sg, mu, ad⟩ := s
      dsimp only at hDw hX hR hmu0 g2 g3 g4 g5 hYw hZw
      go_enter Try.func11, Try.ntmps11
      go_wp2_with fail
      refine (MY.out _).mono ?_
      rintro e w1 ⟨rfl, hb1⟩
      have cT := BX.below hb1
      have cT1 := cT.cell
      have hb2 := bel1 hb1
      go_wp2_with fail
      go_ret2
      exact ptp_none rfl hb2
    case pos =>
    subst hr0
    have hZw : IntKind.i64.wrap (Y + s.ad) = v := by rw [hZw]; omega
    clear hY
    cases hf : fits x s.wd s.sg
    case false =>
      rw [hno (fun hh => by have := hh.2.2.2.2; rw [hq, hf] at this; cases this)]
      rw [hf] at FT
      clear hm hmi hno hdl hD hq hU hU0 hf
      obtain ⟨nm, ar, at_, wd, bg, sg, mu, ad⟩ := s
      dsimp only at hDw hX hR hmu0 FT g2 g3 g4 g5 hYw hZw
      go_enter Try.func11, Try.ntmps11
      go_wp2_with fail
      refine (MY.out _).mono ?_
      rintro e w1 ⟨rfl, hb1⟩
      have cT := BX.below hb1
      have cT1 := cT.cell
      have hb2 := bel1 hb1
      go_wp2_with fail
      refine (FT.out _).mono ?_
      rintro e w' ⟨rfl, rfl⟩
      go_wp2_with fail
      go_ret2
      exact ptp_none rfl hb2
    case true =>
      have hpl : s.putL v = putB U s.wd.toNat s.bg := by unfold Sy.putL; rw [hq, hU]
      rw [putV_yes s v ⟨hm, hv3, hv2, by rw [hD, hR], by rw [hq]; exact hf⟩, hpl]
      rw [hf] at FT
      obtain ⟨n, hn⟩ : ∃ n : Nat, s.wd = n := ⟨s.wd.toNat, by rcases hmi.2.2 with h | h | h <;> omega⟩
      have hwn : isW (n : Int) = true := by
        rw [← hn]
        rcases hmi.2.2 with h | h | h <;> rw [h] <;> decide
      rw [hn, Int.toNat_natCast]
      rw [hn] at FT
      have PT := Lib.hid fun (W : World) => rput_any none 0 0 [] U n s.bg W hwn rfl Rd.nil (by decide) hU0.1 hU0.2
      rw [List.nil_append] at PT
      clear hm hmi hno hdl hD hq hU0 hf hwn hpl
      obtain ⟨nm, ar, at_, wd, bg, sg, mu, ad⟩ := s
      dsimp only at hDw hX hR hmu0 FT PT hn g2 g3 g4 g5 hYw hZw ⊢
      subst hn
      go_enter Try.func11, Try.ntmps11
      go_wp2_with fail
      refine (MY.out _).mono ?_
      rintro e w1 ⟨rfl, hb1⟩
      have cT := BX.below hb1
      have cT1 := cT.cell
      have hb2 := bel1 hb1
      go_wp2_with fail
      refine (FT.out _).mono ?_
      rintro e w' ⟨rfl, rfl⟩
      go_wp2_with fail
      refine (PT.out _).mono ?_
      rintro e w2 ⟨A2, c2, rfl, ho2, hb3⟩
      have hb4 := hb2.trans (hb3.mono hb2.size)
      have ho3 := ho2.more hb2.size
      go_wp2_with fail
      go_ret2
      exact ⟨A2, c2, rfl, ho3, hb4⟩
end Go.Proofs.Ytmcmlglacblkiaa
