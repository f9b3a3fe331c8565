/- LockKeys: the walk. -/
import Derived.Test.YtgkmeekefinmkaaL9
import Derived.Test.YtgkmeekefinmkaaLX
import Derived.Maps.Own
namespace Go.Proofs.Ytgkmeekefinmkaa
open Go.RowKit Go.Maps
set_option linter.unusedVariables false
set_option linter.unusedSimpArgs false
theorem set_same (xs : List Int) (m : Nat) (x : Int) (hm : m < xs.length) : xs.set m x = xs ↔ x = xs.getD m 0 := by
  constructor
  · intro h
    have := congrArg (fun l => l.getD m 0) h
    simp [List.getD_eq_getElem?_getD, List.getElem?_set_self hm] at this
    rw [List.getD_eq_getElem?_getD]
    exact this
  · intro h
    subst h
    rw [List.getD_eq_getElem?_getD, List.getElem?_eq_getElem hm]
    simp
theorem whole_nil {w : World} {B l : Nat} {Φ : Nat → Prop} (h : LAt w B Φ l ⟨13, 13, none⟩) (hB : B ≤ w.heap.size) (r : Int) (hr0 : 0 ≤ r) (hr1 : r < 256) (A : Option Addr) (c : Nat) :
    Calls Try.prog 21 #[.pointer (some ⟨l, 0, none⟩), .int .u8 r, .slice A 0 c, .slice none 0 0] w fun e w' => e = .returned (.int .i64 1) ∧ ChT B [49, 51] w w' := by
  have SD := seed_any h hB 0 r (by decide) hr0 hr1 A 0 c [] rfl By.nil (fun x hx => by cases hx)
  have hX : seedX ⟨13, 13, none⟩ 0 r [] = (⟨13, 13, none⟩, 0, [], 1) := by
    unfold seedX
    rw [if_pos rfl, if_pos (.inr (.inl (by decide)))]
  rw [hX] at SD
  have SD := Lib.hid SD
  clear h hX
  go_enter Try.func21, Try.ntmps21
  go_wp2_with fail
  refine SD.out.mono ?_
  rintro e w1 ⟨A1, m1, c1, rfl, hm1, ho1, hL1, hc1⟩
  obtain rfl : m1 = 0 := hm1.symm
  clear SD hm1 ho1
  go_wp2_with fail
  go_loopw [11] (fun ev wr => ev = .int .i64 1 ∧ wr = w1) (fun _ _ => 0)
  case atStart => exact ⟨rfl, rfl⟩
  case round =>
    obtain ⟨rfl, rfl⟩ := hrel
    go_wp2_with fail
    go_loopw [3, 11] (fun kv ev wx => kv = .slice none 0 0 ∧ ev = .int .i64 1 ∧ wx = wr) (fun _ _ _ => 0)
    case atStart => exact ⟨rfl, rfl, rfl⟩
    case round =>
      obtain ⟨rfl, rfl, rfl⟩ := hrel
      go_wp2_with fail
      go_ret
      exact ⟨rfl, hc1⟩
theorem zero5 (w : World) : (zeroValue 5).run Try.prog w = .ok (.int .u8 0) w := by kernel_rfl
/-- 'map[bool]uint8{true: r}[b]', in its runs. -/
theorem map_runs (W : World) (r : Int) (hr0 : 0 ≤ r) (hr1 : r < 256) (b : Bool) : ∃ w', (Instr.mapUpdate 44 (.map (some W.heap.size)) (.bool true) (.int .u8 r)).run Try.prog (W.alloc (.map #[] 0)).drew = .ok () w' ∧ Below W.heap.size W w' ∧
    (Instr.lookup 44 (.map (some W.heap.size)) (.bool b) false).run Try.prog w' = .ok (.int .u8 (if b then r else 0)) w' := by
  have h0 : (W.alloc (.map #[] 0)).ownsMap (H := Unit) Try.prog 4 (plainElem Try.prog 5) W.heap.size 0 (.map []) := World.ownsMap_made _ _ _ _
  have h0 := h0.drew
  have hwf : (Lit.int .u8 r).wf = true := by
    have h1 : IntKind.u8.min = 0 := rfl
    have h2 : IntKind.u8.max = 255 := rfl
    simp only [Lit.wf, Bool.and_eq_true, decide_eq_true_eq]
    omega
  obtain ⟨w', hrun, hown, hg⟩ := h0.update (bool_keyed Try.underlying4) Try.underlying44 (by decide) (key := .bool true) (kl := .bool true) rfl (plainElem_int Try.underlying5 hwf)
  obtain ⟨c, hl, hat, -⟩ := hown.lookup_int (bool_keyed Try.underlying4) Try.underlying44 Try.underlying5 (zero5 _) (key := .bool b) (kl := .bool b) rfl
  refine ⟨w', hrun, (bl1d W _).grown hg (by simp) (fun k hk => by injection hk with hk; omega), ?_⟩
  rw [hl]
  cases b
  · have h : (DataW.lit (Lit.int .u8 0) : DataW Unit) = .lit (.int .u8 c) := hat
    injection h with h
    injection h with _ h
    subst h
    rfl
  · have h : (DataW.lit (Lit.int .u8 r) : DataW Unit) = .lit (.int .u8 c) := hat
    injection h with h
    injection h with _ h
    subst h
    rfl
set_option maxRecDepth 100000 in
set_option maxHeartbeats 8000000 in
theorem keys_any (which : Int) (A : Option Addr) (n c : Nat) (xs : List Int) (pos by_ : Int) (w : World) (hw0 : 0 ≤ which) (hw1 : which < 256) (hp0 : 0 ≤ pos) (hp1 : pos < 256) (hy0 : 0 ≤ by_) (hy1 : by_ < 256)
    (hx : xs.length = n) (hn : n ≤ c) (hc : c ≤ maxLen) (hr : Rd w w.heap.size A (u8s xs)) (hA : A = none → n = 0 ∧ c = 0) (hu : by8 xs) :
    Calls Try.prog 6 #[.int .u8 which, .slice A n c, .int .u8 pos, .int .u8 by_] w fun e w' => e = .returned (.bool true) ∧ Below w.heap.size w w' := by
  unfold maxLen at hc
  obtain ⟨N, hN⟩ : ∃ N, min n 20 = N := ⟨_, rfl⟩
  have hNn : N ≤ n := by omega
  have hNc : N ≤ c := by omega
  have hN20 : N ≤ 20 := by omega
  obtain ⟨s, hys⟩ : ∃ s, xs.take N = s := ⟨_, rfl⟩
  have hsl : s.length = N := by rw [← hys, List.length_take]; omega
  have hrs : Rd w w.heap.size A (u8s s) := by rw [← hys]; exact hr.take' N
  have hus : by8 s := fun x hx => hu x (List.mem_of_mem_take (by rw [hys]; exact hx))
  obtain ⟨k3, r, hk3, hk3l, hk3v, hres, hr0, hr1⟩ := three_at which hw0
  have hr8 : r ≤ 8 := (res_yes r hres).2.2.2.2
  have LN := fun W hW => lnew_any 255 W w.heap.size (fun _ => False) hW (by decide) (by decide)
  rw [show m13 255 = 13 by decide] at LN
  have LN := Lib.hid LN
  have HSL := Lib.hid hsl
  have HK := Lib.hid hk3v
  have h3I : (k3 : Int) < 3 := by omega
  clear hr hx hu hys hsl hk3v
  have hmm := @run_makeMap Try.prog
  go_enter Try.func6, Try.ntmps6
  go_wp2_with fail
  refine (shown_any w).mono ?_
  rintro e w1 ⟨rfl, hb1⟩
  have hz1 := hb1.size
  have c3 : (w1.alloc (.cells #[.int .u8 1, .int .u8 4, .int .u8 8] 5)).cell? ⟨w1.heap.size, k3, none⟩ = some (.int .u8 r) := ((Blk.new w1 5 #[.int .u8 1, .int .u8 4, .int .u8 8]).cell k3).trans HK.out
  go_upto_region 3 with fail
  refine wp_named fun W hW => ?_
  obtain ⟨BW, hbW⟩ := blk1 hW
  clear hW c3
  have b2 := hb1.trans (hbW.mono hz1)
  have hzW := hbW.size
  go_cut [11] (fun v wx => v = .slice A N c ∧ wx = W)
  case first =>
    by_cases h30 : n ≤ 20
    · obtain rfl : N = n := by omega
      go_wp2_with fail
      go_meet
      case rel => exact ⟨rfl, rfl⟩
    · have h30' : 20 < n := by omega
      obtain rfl : N = 20 := by omega
      go_wp2_with fail
      go_meet
      case rel => exact ⟨rfl, rfl⟩
  case rest =>
    obtain ⟨rfl, rfl⟩ := hcut
    clear hN BW
    go_wp2_with fail
    refine (LN.out wc (by omega)).mono ?_
    rintro e w2 ⟨rfl, hL, hb2⟩
    have hz2 := hb2.size
    have b3 := b2.trans (hb2.mono (by omega))
    go_wp2_with fail
    refine (locked_any hL).mono ?_
    rintro e w' ⟨rfl, rfl⟩
    by_cases hN0 : N = 0
    · subst hN0
      have WN := Lib.hid (whole_nil hL (by omega) r hr0 hr1 A c)
      clear LN hL
      go_wp2_with fail
      refine WN.out.mono ?_
      rintro e w3 ⟨rfl, hc3⟩
      go_wp2_with fail
      go_ret
      exact ⟨rfl, b3.trans (hc3.below (by omega))⟩
    · have hN1 : 1 ≤ N := by omega
      have e0 : ((N : Int) == 0) = false := beq_eq_false_iff_ne.2 (by omega)
      have K := Lib.hid (key_any A N c s r w2 HSL.out ((hrs.below b3).more (by omega)) (by omega) hr0 hr1)
      obtain ⟨m, hm⟩ : ∃ m : Nat, pos % (N : Int) = (m : Int) := ⟨(pos % (N : Int)).toNat, by have := Int.emod_nonneg pos (b := (N : Int)) (by omega); omega⟩
      have hmN : m < N := by have := Int.emod_lt_of_pos pos (b := (N : Int)) (by omega); omega
      have hmI : (m : Int) < N := by omega
      have hNp : (0 : Int) < N := by omega
      clear LN
      go_wp2_with fail
      refine K.out.mono ?_
      rintro e w3 ⟨A3, c3, rfl, ho3, hb3⟩
      have b4 := b3.trans (hb3.mono (by omega))
      have hz3 := b4.size
      obtain ⟨gk, ok, rfl⟩ := ho3.at_ (by omega)
      obtain ⟨x, hx⟩ : ∃ x, (keyL s r)[m]? = some x := ⟨_, List.getElem?_eq_getElem (by rw [keyL_len, HSL.out]; exact hmN)⟩
      have cx : w3.cell? ⟨gk, ok + m, none⟩ = some (.int .u8 x) := ho3.cells m _ (by rw [List.getElem?_map, hx]; rfl)
      have fx := ho3.frozen
      have hxb := keyL_by s r hus x (List.mem_of_getElem? hx)
      have hset := ho3.set_ m (by omega) (.int .u8 (bits .xor .u8 x by_))
      rw [← List.map_set] at hset
      have hchg : Chg (fun i => i = gk) w3 (w3.setCell ⟨gk, ok + m, none⟩ (.int .u8 (bits .xor .u8 x by_))) := (Chg.refl (fun i => i = gk) _).at_ (q := gk) (Eq.refl gk) _ _
      have hgk := (ho3.lt (g := gk) rfl).1
      have b5 : Below w.heap.size w (w3.setCell ⟨gk, ok + m, none⟩ (.int .u8 (bits .xor .u8 x by_))) := b4.trans (hchg.below (fun i _ e => by omega) hz3)
      have hbL : Below w2.heap.size w2 (w3.setCell ⟨gk, ok + m, none⟩ (.int .u8 (bits .xor .u8 x by_))) := hb3.trans (hchg.below (fun i _ e => by omega) hb3.size)
      have hL5 := hL.below hbL
      have hks : (keyL s r).set m (bits .xor .u8 x by_) = keyL s r ↔ by_ = 0 := by
        rw [set_same _ _ _ (by rw [keyL_len, HSL.out]; exact hmN), List.getD_eq_getElem?_getD, hx]
        exact xor_same x by_ hxb ⟨hy0, hy1⟩
      have WH := Lib.hid (whole_any hL5 b5.size r hres hr0 hr1 A N c s HSL.out (By.of_rd (hrs.below b5) b5.size) hus hN1 hN20 gk ok c3 _ (by rw [List.length_set, keyL_len, HSL.out]) (By.of_own hset) (fun y hy => by
        rcases List.mem_or_eq_of_mem_set hy with hy | rfl
        · exact keyL_by s r hus y hy
        · exact xor_bd x by_ hxb ⟨hy0, hy1⟩) ho3.2.1 ho3.2.2.1)
      simp only [hks] at WH
      have hz5 := b5.size
      clear hL hL5 hset K ho3 hx hks hbL hchg
      by_cases hby : by_ = 0
      case' pos =>
        simp only [if_pos hby] at WH
        subst hby
        obtain ⟨b0, hb0⟩ : ∃ b0, b0 = true := ⟨_, rfl⟩
      case' neg =>
        simp only [if_neg hby] at WH
        have hbyb : (by_ == 0) = false := by simpa using hby
        obtain ⟨b0, hb0⟩ : ∃ b0, b0 = false := ⟨_, rfl⟩
      all_goals
        go_wp2_with fail
        refine WH.out.mono ?_
        rintro e w6 ⟨rfl, hL6, hc6⟩
        have hb6 : Below w.heap.size w w6 := b5.trans (hc6.below hz5)
        have hL6d := hL6.below (Below.refl w6.heap.size w6).drew
        have hw13 : IntKind.u8.wrap (13 - r) = 13 - r := by rw [IntKind.wrap_u8]; omega
        obtain ⟨wI, run1, blI, look1⟩ := map_runs w6 r hr0 hr1 b0
        subst hb0
        clear WH
        go_upto_region 14 with fail
        clear hrs hus HK HSL fx cx hxb b2 b3 b4 b5 hb1 hb2 hb3 hc6 hbW
      · go_region_held (fun w' => Below w6.heap.size w6 w') (first | exact Below.refl _ _ | exact (Below.refl _ _).drew | exact bl1 _ _ | exact bl1d _ _ | exact (Below.refl _ _).drew.alloc (Nat.le_refl _) _ | exact blI | (trace_state; fail))
          (first | (go_at_call 13; (with_reducible refine (locked_any (hL6.below (by assumption))).mono ?_); rintro e w' ⟨rfl, rfl⟩) | (go_at_call 13; trace_state; fail))
        all_goals
          have hLI := hL6.below blI
          have RL := Lib.hid (relock_any hLI)
          go_wp2_with fail
          refine RL.out.mono ?_
          rintro e w7 ⟨rfl, hL7, hc7⟩
          go_wp2_with fail
          refine (locked_any hL7).mono ?_
          rintro e w' ⟨rfl, rfl⟩
          go_wp2_with fail
          go_ret
          exact ⟨rfl, (hb6.trans (blI.mono hb6.size)).trans (hc7.below (by have := hb6.size; have := blI.size; omega))⟩
      · (first | go_region_held (fun w' => Below w6.heap.size w6 w') (first | exact Below.refl _ _ | exact (Below.refl _ _).drew | exact bl1 _ _ | exact bl1d _ _ | exact (Below.refl _ _).drew.alloc (Nat.le_refl _) _ | exact blI | (trace_state; fail))
          (first | (go_at_call 13; (with_reducible refine (locked_any (hL6.below (by assumption))).mono ?_); rintro e w' ⟨rfl, rfl⟩) | (go_at_call 13; trace_state; fail)) | fail)
        all_goals
          have hLI := hL6.below blI
          have RL := Lib.hid (relock_any hLI)
          go_wp2_with fail
          refine RL.out.mono ?_
          rintro e w7 ⟨rfl, hL7, hc7⟩
          go_wp2_with fail
          refine (locked_any hL7).mono ?_
          rintro e w' ⟨rfl, rfl⟩
          go_wp2_with fail
          go_ret
          exact ⟨rfl, (hb6.trans (blI.mono hb6.size)).trans (hc7.below (by have := hb6.size; have := blI.size; omega))⟩
end Go.Proofs.Ytgkmeekefinmkaa
