/- sym.Take and Put, of the program and of the reference. -/
import Derived.Test.YtmcmlglacblkiaaY1
import Derived.Test.YtmcmlglacblkiaaRPut
import Derived.Test.YtmcmlglacblkiaaRTake
namespace Go.Proofs.Ytmcmlglacblkiaa
open Go.RowKit
set_option linter.unusedVariables false
set_option linter.unusedSimpArgs false
theorem mul_bd (a x A X : Int) (h1 : -A ≤ a) (h2 : a ≤ A) (h3 : -X ≤ x) (h4 : x ≤ X) (hA : 0 ≤ A) (hX : 0 ≤ X) : -(A * X) ≤ a * x ∧ a * x ≤ A * X := by
  have h5 : a.natAbs ≤ A.natAbs := by omega
  have h6 : x.natAbs ≤ X.natAbs := by omega
  have h7 := Nat.mul_le_mul h5 h6
  have h8 : (a * x).natAbs = a.natAbs * x.natAbs := Int.natAbs_mul a x
  have h9 : (A * X).natAbs = A.natAbs * X.natAbs := Int.natAbs_mul A X
  have h10 : 0 ≤ A * X := Int.mul_nonneg hA hX
  rw [← h8, ← h9] at h7
  omega
/-- What bytes mean as a number. -/
def Sy.num (s : Sy) (b : List Int) : Int := if s.sg then sgn (takeB b s.bg) (mod8 s.wd) else takeB b s.bg
/-- What bytes mean, and the error's number. -/
def Sy.takeV (s : Sy) (b : List Int) : Int × Int := if s.may then (if (b.length : Int) = s.wd then (s.mu * s.num b + s.ad, 0) else (0, 5)) else (0, 1)
abbrev b8 (xs : List Int) : Prop := ∀ x ∈ xs, 0 ≤ x ∧ x < 256
theorem takeB_bd (xs : List Int) (big : Bool) (h : b8 xs) : 0 ≤ takeB xs big ∧ takeB xs big < (256 : Int) ^ xs.length := by
  unfold takeB
  split
  · exact be_bd xs h
  · have := be_bd xs.reverse (fun x hx => h x (by simpa using hx))
    simpa using this
theorem pow4 (n : Nat) (h : n = 1 ∨ n = 2 ∨ n = 4) : (256 : Int) ^ n = mod8 n ∧ (256 : Int) ^ n ≤ 4294967296 := by
  rcases h with rfl | rfl | rfl <;> decide
theorem num_bd (s : Sy) (b : List Int) (hb : b8 b) (hw : s.wd = 1 ∨ s.wd = 2 ∨ s.wd = 4) (hl : (b.length : Int) = s.wd) : 0 ≤ takeB b s.bg ∧ takeB b s.bg < 4294967296 ∧ -4294967296 ≤ s.num b ∧ s.num b ≤ 4294967296 := by
  have h1 := takeB_bd b s.bg hb
  have h2 := pow4 b.length (by omega)
  have h3 : mod8 s.wd = 256 ∨ mod8 s.wd = 65536 ∨ mod8 s.wd = 4294967296 := by
    rcases hw with h | h | h <;> rw [h] <;> decide
  refine ⟨h1.1, by omega, ?_⟩
  unfold Sy.num sgn
  split
  · rcases h3 with h | h | h <;> rw [h] <;> omega
  · omega
def TkP (w : World) (r : Int × Int) (e : Ending) (w' : World) : Prop := e = .returned (.tuple #[.int .i64 r.1, .int .i64 r.2]) ∧ Below w.heap.size w w
set_option maxHeartbeats 4000000 in
theorem stake_any (s : Sy) (A : Option Addr) (n c : Nat) (b : List Int) (w : World) (h : s.wf) (hx : b.length = n) (hr : Rd w w.heap.size A (u8s b)) (hn : n ≤ c) (hl : n ≤ 100000) (hc : c ≤ maxLen) (hu : b8 b) :
    Calls Try.prog 12 #[s.val, .slice A n c] w fun e w' => e = .returned (.tuple #[.int .i64 (s.takeV b).1, .int .i64 (s.takeV b).2]) ∧ Below w.heap.size w w' := by
  have MY := Lib.hid fun (W : World) => may_any s W h
  obtain ⟨V, hV⟩ : ∃ V, s.takeV b = V := ⟨_, rfl⟩
  rw [hV]
  have BX := Blk.new w 24 s.cs
  by_cases hm : s.may = true
  case neg =>
    have hm : s.may = false := by simpa using hm
    rw [hm] at MY
    obtain rfl : V = (0, 1) := by rw [← hV]; unfold Sy.takeV; rw [hm]; rfl
    clear hV hm
    obtain ⟨nm, ar, at_, wd, bg, sg, mu, ad⟩ := s
    clear hx hr hu
    go_enter Try.func12, Try.ntmps12
    go_wp2_with fail
    refine (MY.out _).mono ?_
    rintro e w1 ⟨rfl, hb1⟩
    go_wp2_with fail
    go_ret2
    exact ⟨rfl, bel1 hb1⟩
  case pos =>
    have hmi := (may_iff s).1 hm
    rw [hm] at MY
    by_cases hlw : (b.length : Int) = s.wd
    case neg =>
      obtain rfl : V = (0, 5) := by rw [← hV]; unfold Sy.takeV; rw [hm, if_pos rfl, if_neg hlw]
      rw [hx] at hlw
      have hne : ((n : Int) != s.wd) = true := by simpa using hlw
      clear hV hm hmi hlw
      obtain ⟨nm, ar, at_, wd, bg, sg, mu, ad⟩ := s
      dsimp only at hne
      clear hx hr hu
      go_enter Try.func12, Try.ntmps12
      go_wp2_with fail
      refine (MY.out _).mono ?_
      rintro e w1 ⟨rfl, hb1⟩
      have cT := (BX.below hb1).cell
      go_wp2_with fail
      go_ret2
      exact ⟨rfl, bel1 hb1⟩
    case pos =>
      have hnb := num_bd s b hu hmi.2.2 hlw
      have hVV : V = (s.mu * s.num b + s.ad, 0) := by rw [← hV]; unfold Sy.takeV; rw [hm, if_pos rfl, if_pos hlw]
      have hmb := mul_bd s.mu (s.num b) 16777216 4294967296 hmi.2.1.2.1 hmi.2.1.2.2 hnb.2.2.1 hnb.2.2.2 (by decide) (by decide)
      rw [hx] at hlw
      have hwn : isW (n : Int) = true := by
        rw [hlw]
        rcases hmi.2.2 with h | h | h <;> rw [h] <;> decide
      have TK := Lib.hid fun (W : World) (hW : Below w.heap.size w W) => take_any A n c b n s.bg W hwn (Nat.le_refl _) hx ((hr.below hW).more hW.size) hn hl hc hu
      rw [List.take_of_length_le (by omega), List.drop_eq_nil_of_le (by omega)] at TK
      obtain ⟨v, hv⟩ : ∃ v, takeB b s.bg = v := ⟨_, rfl⟩
      have SN := Lib.hid fun (W : World) => signed_any v n W (by omega) (by omega)
      rw [hwn] at SN
      have hnum : s.num b = if s.sg then sgn v (mod8 n) else v := by unfold Sy.num; rw [hv, hlw]
      rw [hv] at TK hnb
      obtain ⟨x, hxx⟩ : ∃ x, s.num b = x := ⟨_, rfl⟩
      rw [hxx] at hVV hmb hnum hnb
      subst hVV
      obtain ⟨nm, ar, at_, wd, bg, sg, mu, ad⟩ := s
      dsimp only at hlw hmb hnum hnb TK hmi ⊢
      obtain rfl : wd = (n : Int) := hlw.symm
      obtain ⟨hw1, hw2, hw3, hw4, hw5, hw6, hw7⟩ := h
      dsimp only at hw2 hw3 hw4 hw5 hw6 hw7
      obtain ⟨P, hP⟩ : ∃ P, mu * x = P := ⟨_, rfl⟩
      rw [hP] at hmb ⊢
      have k1 : IntKind.i64.wrap (mu * x) = P := by rw [hP, IntKind.wrap_i64]; omega
      have k2 : IntKind.i64.wrap (P + ad) = P + ad := by rw [IntKind.wrap_i64]; omega
      have hmu1 := hmi.2.1.2.1
      have hmu2 := hmi.2.1.2.2
      have hv0 := hnb.1
      have hv1 := hnb.2.1
      clear hV hm hmi hx hr hu hv hxx hw1 hmb hnb hP hwn hw6 hw7
      cases sg
      case' true =>
        obtain rfl : x = sgn v (mod8 n) := hnum
      case' false =>
        obtain rfl : x = v := hnum
      all_goals
        go_enter Try.func12, Try.ntmps12
        go_wp2_with fail
        refine (MY.out _).mono ?_
        rintro e w1 ⟨rfl, hb1⟩
        have cT := BX.below hb1
        have cT1 := cT.cell
        have hb2 := bel1 hb1
        go_wp2_with fail
        refine (TK.out _ hb2).mono ?_
        rintro e w2 ⟨A2, c2, rfl, ho2, hb3⟩
        have cT2 := (cT.below hb3).cell
        have hb4 := hb2.trans (hb3.mono hb2.size)
        clear ho2
        go_wp2_with (go_at_call 27; refine (SN.out _).mono ?_; rintro e w' ⟨rfl, rfl⟩)
        go_ret2
        exact ⟨rfl, hb4⟩
set_option maxHeartbeats 4000000 in
theorem srtake_any (s : Sy) (A : Option Addr) (n c : Nat) (b : List Int) (w : World) (h : s.wf) (hx : b.length = n) (hr : Rd w w.heap.size A (u8s b)) (hn : n ≤ c) (hl : n ≤ 100000) (hc : c ≤ maxLen) (hu : b8 b) :
    Calls Try.prog 13 #[s.val, .slice A n c] w fun e w' => e = .returned (.tuple #[.int .i64 (s.takeV b).1, .int .i64 (s.takeV b).2]) ∧ Below w.heap.size w w' := by
  have MY := Lib.hid fun (W : World) => rmay_any s W h
  obtain ⟨V, hV⟩ : ∃ V, s.takeV b = V := ⟨_, rfl⟩
  rw [hV]
  have BX := Blk.new w 24 s.cs
  by_cases hm : s.may = true
  case neg =>
    have hm : s.may = false := by simpa using hm
    rw [hm] at MY
    obtain rfl : V = (0, 1) := by rw [← hV]; unfold Sy.takeV; rw [hm]; rfl
    clear hV hm
    obtain ⟨nm, ar, at_, wd, bg, sg, mu, ad⟩ := s
    clear hx hr hu
    go_enter Try.func13, Try.ntmps13
    go_wp2_with fail
    refine (MY.out _).mono ?_
    rintro e w1 ⟨rfl, hb1⟩
    go_wp2_with fail
    go_ret2
    exact ⟨rfl, bel1 hb1⟩
  case pos =>
    have hmi := (may_iff s).1 hm
    rw [hm] at MY
    by_cases hlw : (b.length : Int) = s.wd
    case neg =>
      obtain rfl : V = (0, 5) := by rw [← hV]; unfold Sy.takeV; rw [hm, if_pos rfl, if_neg hlw]
      rw [hx] at hlw
      have hne : ((n : Int) != s.wd) = true := by simpa using hlw
      clear hV hm hmi hlw
      obtain ⟨nm, ar, at_, wd, bg, sg, mu, ad⟩ := s
      dsimp only at hne
      clear hx hr hu
      go_enter Try.func13, Try.ntmps13
      go_wp2_with fail
      refine (MY.out _).mono ?_
      rintro e w1 ⟨rfl, hb1⟩
      have cT := (BX.below hb1).cell
      go_wp2_with fail
      go_ret2
      exact ⟨rfl, bel1 hb1⟩
    case pos =>
      have hnb := num_bd s b hu hmi.2.2 hlw
      have hVV : V = (s.mu * s.num b + s.ad, 0) := by rw [← hV]; unfold Sy.takeV; rw [hm, if_pos rfl, if_pos hlw]
      have hmb := mul_bd s.mu (s.num b) 16777216 4294967296 hmi.2.1.2.1 hmi.2.1.2.2 hnb.2.2.1 hnb.2.2.2 (by decide) (by decide)
      rw [hx] at hlw
      have hwn : isW (n : Int) = true := by
        rw [hlw]
        rcases hmi.2.2 with h | h | h <;> rw [h] <;> decide
      have TK := Lib.hid fun (W : World) (hW : Below w.heap.size w W) => rtake_any A n c b n s.bg W hwn (Nat.le_refl _) hx ((hr.below hW).more hW.size) hn hl hc hu
      rw [List.take_of_length_le (by omega), List.drop_eq_nil_of_le (by omega)] at TK
      obtain ⟨v, hv⟩ : ∃ v, takeB b s.bg = v := ⟨_, rfl⟩
      have SN := Lib.hid fun (W : World) => rsigned_any v n W (by omega) (by omega)
      rw [hwn] at SN
      have hnum : s.num b = if s.sg then sgn v (mod8 n) else v := by unfold Sy.num; rw [hv, hlw]
      rw [hv] at TK hnb
      obtain ⟨x, hxx⟩ : ∃ x, s.num b = x := ⟨_, rfl⟩
      rw [hxx] at hVV hmb hnum hnb
      subst hVV
      obtain ⟨nm, ar, at_, wd, bg, sg, mu, ad⟩ := s
      dsimp only at hlw hmb hnum hnb TK hmi ⊢
      obtain rfl : wd = (n : Int) := hlw.symm
      obtain ⟨hw1, hw2, hw3, hw4, hw5, hw6, hw7⟩ := h
      dsimp only at hw2 hw3 hw4 hw5 hw6 hw7
      obtain ⟨P, hP⟩ : ∃ P, mu * x = P := ⟨_, rfl⟩
      rw [hP] at hmb ⊢
      have k1 : IntKind.i64.wrap (mu * x) = P := by rw [hP, IntKind.wrap_i64]; omega
      have k2 : IntKind.i64.wrap (P + ad) = P + ad := by rw [IntKind.wrap_i64]; omega
      have hmu1 := hmi.2.1.2.1
      have hmu2 := hmi.2.1.2.2
      have hv0 := hnb.1
      have hv1 := hnb.2.1
      clear hV hm hmi hx hr hu hv hxx hw1 hmb hnb hP hwn hw6 hw7
      cases sg
      case' true =>
        obtain rfl : x = sgn v (mod8 n) := hnum
      case' false =>
        obtain rfl : x = v := hnum
      all_goals
        go_enter Try.func13, Try.ntmps13
        go_wp2_with fail
        refine (MY.out _).mono ?_
        rintro e w1 ⟨rfl, hb1⟩
        have cT := BX.below hb1
        have cT1 := cT.cell
        have hb2 := bel1 hb1
        go_wp2_with fail
        refine (TK.out _ hb2).mono ?_
        rintro e w2 ⟨A2, c2, rfl, ho2, hb3⟩
        have cT2 := (cT.below hb3).cell
        have hb4 := hb2.trans (hb3.mono hb2.size)
        clear ho2
        go_wp2_with (go_at_call 29; refine (SN.out _).mono ?_; rintro e w' ⟨rfl, rfl⟩)
        go_ret2
        exact ⟨rfl, hb4⟩
end Go.Proofs.Ytmcmlglacblkiaa
