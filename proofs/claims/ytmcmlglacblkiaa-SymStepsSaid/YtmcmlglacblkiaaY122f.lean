/- SymSteps: the walk, of words of 2, from 0 on (printed by gen_steps2.py). -/
import Derived.Test.YtmcmlglacblkiaaY11
namespace Go.Proofs.Ytmcmlglacblkiaa
open Go.RowKit
set_option linter.unusedVariables false
set_option linter.unusedSimpArgs false
set_option maxRecDepth 100000 in
set_option maxHeartbeats 8000000 in
theorem steps_2f (s : Sy) (w : World) (h : s.wf) (hj : bits .and .i64 s.wd 1023 % 3 = 1) (hs : s.sg = false) : Calls Try.prog 5 #[s.val] w fun e w' => e = .returned (.bool true) ∧ Below w.heap.size w w' := by
  obtain ⟨z, hz⟩ : ∃ z, bits .and .i64 s.wd 1023 = z := ⟨_, rfl⟩
  have hzb := and1023 s.wd
  rw [hz] at hzb
  have e0 : z % 3 = 1 := by rw [← hz]; exact hj
  clear hj
  have e0t : z.tmod 3 = 1 := by rw [Int.tmod_eq_emod_of_nonneg hzb.1]; exact e0
  have hz0' : 0 ≤ z := hzb.1
  obtain ⟨x, hx⟩ : ∃ x : Sy, (⟨⟨#[120]⟩, 0, 0, 2, s.bg, s.sg, s.mu, s.ad⟩ : Sy) = x := ⟨_, rfl⟩
  have hxw : x.wf := by
    rw [← hx]
    exact ⟨show (⟨#[120]⟩ : ByteArray).size ≤ 9223372036854775807 by decide, h.mu0, h.mu1, h.ad0, h.ad1, show (-9223372036854775808 : Int) ≤ 2 by decide, show (2 : Int) ≤ 9223372036854775807 by decide⟩
  have hmay : (s.mu ≠ 0 ∧ -16777216 ≤ s.mu ∧ s.mu ≤ 16777216) → x.may = true := fun hmu => by
    rw [← hx]
    exact (may_iff _).2 ⟨⟨ctl_x, show 1 ≤ (⟨#[120]⟩ : ByteArray).size by decide, show (⟨#[120]⟩ : ByteArray).size ≤ 32 by decide⟩, hmu, show (2 : Int) = 1 ∨ (2 : Int) = 2 ∨ (2 : Int) = 4 by decide⟩
  have hmayn : ¬ (s.mu ≠ 0 ∧ -16777216 ≤ s.mu ∧ s.mu ≤ 16777216) → x.may = false := fun hmu => by
    rw [← hx]
    exact may_no _ fun hh => hmu hh.2.1
  have MY := Lib.hid fun (W : World) => may_any x W hxw
  have cS := (Blk.new w 24 s.cs).cell
  have BS := Blk.new w 24 s.cs
  have hb0 := bl1 w (.cells s.cs 24)
  have hz0 := hb0.size
  have hcs : x.cs = #[.string ⟨#[120]⟩, .int .u8 0, .int .u32 0, .int .i64 2, .bool s.bg, .bool s.sg, .int .i32 s.mu, .int .i32 s.ad] := by rw [← hx]
  have HCS := Lib.hid hcs
  have HX := Lib.hid hx
  obtain ⟨nm, ar, at_, wd, bg, sg, mu, ad⟩ := s
  dsimp only at hs
  subst hs
  dsimp only at hz hcs hmay hmayn
  have HM := Lib.hid hmay
  have HMN := Lib.hid hmayn
  have m1 := h.mu0
  have m2 := h.mu1
  have m3 := h.ad0
  have m4 := h.ad1
  dsimp only at m1 m2 m3 m4
  clear hx hcs hmay hmayn h cS
  go_enter Try.func5, Try.ntmps5
  go_wp2_with fail
  refine (shown18_any _).mono ?_
  rintro e w1 ⟨rfl, hbs⟩
  have BS1 := BS.below hbs
  have cS1 := BS1.cell
  have RS1 := BS1.rule
  have hb1 := hb0.trans (hbs.mono hz0)
  have hz1 := hb1.size
  clear hbs hb0 hz0 BS BS1
  go_upto_region 2 with fail
  go_cut [4] (fun v wx => ∃ g, v = .pointer (some ⟨g, 0, none⟩) ∧ Blk wx g 24 x.cs ∧ Below w.heap.size w wx)
  case first =>
    refine wp_region_held_drew (S := fun w' => Below w1.heap.size w1 w') (by kernel_rfl) ((Below.refl _ _).drew) (fun hHeld => ?_)
    refine wpAnyH_take (i := 1) (oi := _) (v := ?_) rfl (by kernel_rfl) (by kernel_rfl) (by kernel_rfl) (fun _ _ _ h => h) (Or.inl ⟨by rfl, ?_⟩) (by assumption) ?_
    rotate_left
    · intro w' hSw
      go_simp
      first | done | with_reducible rfl
    try simp only [Act.put, List.setIfInBounds_toArray, List.set_cons_zero, List.set_cons_succ]
    refine wpAnyH_take (i := 2) (oi := _) (v := ?_) rfl (by kernel_rfl) (by kernel_rfl) (by kernel_rfl) (fun _ _ _ h => h) (Or.inl ⟨by rfl, ?_⟩) (by assumption) ?_
    rotate_left
    · intro w' hSw
      go_simp
      first | done | with_reducible rfl
    try simp only [Act.put, List.setIfInBounds_toArray, List.set_cons_zero, List.set_cons_succ]
    refine wpAnyH_take (i := 3) (oi := _) (v := ?_) rfl (by kernel_rfl) (by kernel_rfl) (by kernel_rfl) (fun _ _ _ h => h) (Or.inl ⟨by rfl, ?_⟩) (by assumption) ?_
    rotate_left
    · intro w' hSw
      go_simp
      first | done | with_reducible rfl
    try simp only [Act.put, List.setIfInBounds_toArray, List.set_cons_zero, List.set_cons_succ]
    refine wpAnyH_take (i := 4) (oi := _) (v := ?_) rfl (by kernel_rfl) (by kernel_rfl) (by kernel_rfl) (fun _ _ _ h => h) (Or.inl ⟨by rfl, ?_⟩) (by assumption) ?_
    rotate_left
    · intro w' hSw
      go_simp
      first | done | with_reducible rfl
    try simp only [Act.put, List.setIfInBounds_toArray, List.set_cons_zero, List.set_cons_succ]
    refine wpAnyH_take (i := 7) (oi := _) (v := ?_) rfl (by kernel_rfl) (by kernel_rfl) (by kernel_rfl) (fun _ _ _ h => h) (Or.inl ⟨by rfl, ?_⟩) (by assumption) ?_
    rotate_left
    · intro w' hSw
      go_simp
      first | done | with_reducible rfl
    try simp only [Act.put, List.setIfInBounds_toArray, List.set_cons_zero, List.set_cons_succ]
    refine wpAnyH_take (i := 8) (oi := _) (v := ?_) rfl (by kernel_rfl) (by kernel_rfl) (by kernel_rfl) (fun _ _ _ h => h) (Or.inl ⟨by rfl, ?_⟩) (by assumption) ?_
    rotate_left
    · intro w' hSw
      go_simp
      first | done | with_reducible rfl
    try simp only [Act.put, List.setIfInBounds_toArray, List.set_cons_zero, List.set_cons_succ]
    refine wpAnyH_take (i := 9) (oi := _) (v := ?_) rfl (by kernel_rfl) (by kernel_rfl) (by kernel_rfl) (fun _ _ _ h => h) (Or.inl ⟨by rfl, ?_⟩) (by assumption) ?_
    rotate_left
    · intro w' hSw
      go_simp
      first | done | with_reducible rfl
    try simp only [Act.put, List.setIfInBounds_toArray, List.set_cons_zero, List.set_cons_succ]
    refine wpAnyH_take (i := 10) (oi := _) (v := ?_) rfl (by kernel_rfl) (by kernel_rfl) (by kernel_rfl) (fun _ _ _ h => h) (Or.inl ⟨by rfl, ?_⟩) (by assumption) ?_
    rotate_left
    · intro w' hSw
      go_simp
      first | done | with_reducible rfl
    try simp only [Act.put, List.setIfInBounds_toArray, List.set_cons_zero, List.set_cons_succ]
    refine wpAnyH_take (i := 11) (oi := _) (v := ?_) rfl (by kernel_rfl) (by kernel_rfl) (by kernel_rfl) (fun _ _ _ h => h) (Or.inl ⟨by rfl, ?_⟩) (by assumption) ?_
    rotate_left
    · intro w' hSw
      go_simp
      first | done | with_reducible rfl
    try simp only [Act.put, List.setIfInBounds_toArray, List.set_cons_zero, List.set_cons_succ]
    refine wpAnyH_take (i := 12) (oi := _) (v := ?_) rfl (by kernel_rfl) (by kernel_rfl) (by kernel_rfl) (fun _ _ _ h => h) (Or.inl ⟨by rfl, ?_⟩) (by assumption) ?_
    rotate_left
    · intro w' hSw
      go_simp
      first | done | with_reducible rfl
    try simp only [Act.put, List.setIfInBounds_toArray, List.set_cons_zero, List.set_cons_succ]
    refine wpAnyH_take (i := 13) (oi := _) (v := ?_) rfl (by kernel_rfl) (by kernel_rfl) (by kernel_rfl) (fun _ _ _ h => h) (Or.inl ⟨by rfl, ?_⟩) (by assumption) ?_
    rotate_left
    · intro w' hSw
      go_simp
      first | done | with_reducible rfl
    try simp only [Act.put, List.setIfInBounds_toArray, List.set_cons_zero, List.set_cons_succ]
    refine wpAnyH_take (i := 14) (oi := _) (v := ?_) rfl (by kernel_rfl) (by kernel_rfl) (by kernel_rfl) (fun _ _ _ h => h) (Or.inl ⟨by rfl, ?_⟩) (by assumption) ?_
    rotate_left
    · intro w' hSw
      go_simp
      first | done | with_reducible rfl
    try simp only [Act.put, List.setIfInBounds_toArray, List.set_cons_zero, List.set_cons_succ]
    refine wpAnyH_ready (rs := [0, 16]) (by kernel_rfl) (by simp) ?_
    refine AllReadyH.cons rfl (fun K hK => ?_) ?_
    ·
      go_simp
      refine hK.out _ _ ?_ (fun hHeld => ?_)
      · (try dsimp only)
        first | assumption | exact (bl1 _ _).drew | exact bl2d _ _ _ | exact (Below.refl _ _).drew | exact Below.alloc (by assumption) (Below.size (by assumption)) _
      clear hK K
      refine wpAnyH_take (i := 5) (oi := _) (v := ?_) rfl (by kernel_rfl) (by kernel_rfl) (by kernel_rfl) (fun _ _ _ h => h) (Or.inl ⟨by rfl, ?_⟩) (by assumption) ?_
      rotate_left
      · intro w' hSw
        go_simp
        first | done | with_reducible rfl
      try simp only [Act.put, List.setIfInBounds_toArray, List.set_cons_zero, List.set_cons_succ]
      refine wpAnyH_ready (rs := [6, 16]) (by kernel_rfl) (by simp) ?_
      refine AllReadyH.cons rfl (fun K hK => ?_) ?_
      ·
        go_simp
        refine hK.out _ _ ?_ (fun hHeld => ?_)
        · (try dsimp only)
          first | assumption | exact (bl1 _ _).drew | exact bl2d _ _ _ | exact (Below.refl _ _).drew | exact Below.alloc (by assumption) (Below.size (by assumption)) _
        clear hK K
        refine wpAnyH_take (i := 15) (oi := _) (v := ?_) rfl (by kernel_rfl) (by kernel_rfl) (by kernel_rfl) (fun _ _ _ h => h) (Or.inl ⟨by rfl, ?_⟩) (by assumption) ?_
        rotate_left
        · intro w' hSw
          go_simp
          first | done | with_reducible rfl
        try simp only [Act.put, List.setIfInBounds_toArray, List.set_cons_zero, List.set_cons_succ]
        refine wpAnyH_ready (rs := [16]) (by kernel_rfl) (by simp) ?_
        refine AllReadyH.cons rfl (fun K hK => ?_) ?_
        ·
          go_simp
          refine hK.out _ _ ?_ (fun hHeld => ?_)
          · (try dsimp only)
            first | assumption | exact (bl1 _ _).drew | exact bl2d _ _ _ | exact (Below.refl _ _).drew | exact Below.alloc (by assumption) (Below.size (by assumption)) _
          clear hK K
          refine wpAnyH_ready (rs := [17]) (by kernel_rfl) (by simp) ?_
          refine AllReadyH.cons rfl (fun K hK => ?_) ?_
          ·
            go_simp
            refine hK.out _ _ ?_ (fun hHeld => ?_)
            · (try dsimp only)
              first | assumption | exact (bl1 _ _).drew | exact bl2d _ _ _ | exact (Below.refl _ _).drew | exact Below.alloc (by assumption) (Below.size (by assumption)) _
            clear hK K
            refine wpAnyH_done (by kernel_rfl) ?_ _
            go_wp2_with fail
            go_meet
            case rel =>
              rw [HCS.out]
              first
                | exact ⟨w1.heap.size + 1, rfl, blk_two _ _ _ _, hb1.trans ((bl2d _ _ _).mono hz1)⟩
                | exact ⟨w1.heap.size, rfl, ((Blk.new w1 24 #[.string ⟨#[120]⟩, .int .u8 0, .int .u32 0, .int .i64 2, .bool bg, .bool false, .int .i32 mu, .int .i32 ad]).alloc _).drew, hb1.trans ((bl2d _ _ _).mono hz1)⟩
          exact AllReadyH.nil
        exact AllReadyH.nil
      refine AllReadyH.cons rfl (fun K hK => ?_) ?_
      ·
        go_simp
        refine hK.out _ _ ?_ (fun hHeld => ?_)
        · (try dsimp only)
          first | assumption | exact (bl1 _ _).drew | exact bl2d _ _ _ | exact (Below.refl _ _).drew | exact Below.alloc (by assumption) (Below.size (by assumption)) _
        clear hK K
        refine wpAnyH_ready (rs := [6]) (by kernel_rfl) (by simp) ?_
        refine AllReadyH.cons rfl (fun K hK => ?_) ?_
        ·
          go_simp
          refine hK.out _ _ ?_ (fun hHeld => ?_)
          · (try dsimp only)
            first | assumption | exact (bl1 _ _).drew | exact bl2d _ _ _ | exact (Below.refl _ _).drew | exact Below.alloc (by assumption) (Below.size (by assumption)) _
          clear hK K
          refine wpAnyH_take (i := 15) (oi := _) (v := ?_) rfl (by kernel_rfl) (by kernel_rfl) (by kernel_rfl) (fun _ _ _ h => h) (Or.inl ⟨by rfl, ?_⟩) (by assumption) ?_
          rotate_left
          · intro w' hSw
            go_simp
            first | done | with_reducible rfl
          try simp only [Act.put, List.setIfInBounds_toArray, List.set_cons_zero, List.set_cons_succ]
          refine wpAnyH_ready (rs := [17]) (by kernel_rfl) (by simp) ?_
          refine AllReadyH.cons rfl (fun K hK => ?_) ?_
          ·
            go_simp
            refine hK.out _ _ ?_ (fun hHeld => ?_)
            · (try dsimp only)
              first | assumption | exact (bl1 _ _).drew | exact bl2d _ _ _ | exact (Below.refl _ _).drew | exact Below.alloc (by assumption) (Below.size (by assumption)) _
            clear hK K
            refine wpAnyH_done (by kernel_rfl) ?_ _
            go_wp2_with fail
            go_meet
            case rel =>
              rw [HCS.out]
              first
                | exact ⟨w1.heap.size + 1, rfl, blk_two _ _ _ _, hb1.trans ((bl2d _ _ _).mono hz1)⟩
                | exact ⟨w1.heap.size, rfl, ((Blk.new w1 24 #[.string ⟨#[120]⟩, .int .u8 0, .int .u32 0, .int .i64 2, .bool bg, .bool false, .int .i32 mu, .int .i32 ad]).alloc _).drew, hb1.trans ((bl2d _ _ _).mono hz1)⟩
          exact AllReadyH.nil
        exact AllReadyH.nil
      exact AllReadyH.nil
    refine AllReadyH.cons rfl (fun K hK => ?_) ?_
    ·
      go_simp
      refine hK.out _ _ ?_ (fun hHeld => ?_)
      · (try dsimp only)
        first | assumption | exact (bl1 _ _).drew | exact bl2d _ _ _ | exact (Below.refl _ _).drew | exact Below.alloc (by assumption) (Below.size (by assumption)) _
      clear hK K
      refine wpAnyH_ready (rs := [0]) (by kernel_rfl) (by simp) ?_
      refine AllReadyH.cons rfl (fun K hK => ?_) ?_
      ·
        go_simp
        refine hK.out _ _ ?_ (fun hHeld => ?_)
        · (try dsimp only)
          first | assumption | exact (bl1 _ _).drew | exact bl2d _ _ _ | exact (Below.refl _ _).drew | exact Below.alloc (by assumption) (Below.size (by assumption)) _
        clear hK K
        refine wpAnyH_take (i := 5) (oi := _) (v := ?_) rfl (by kernel_rfl) (by kernel_rfl) (by kernel_rfl) (fun _ _ _ h => h) (Or.inl ⟨by rfl, ?_⟩) (by assumption) ?_
        rotate_left
        · intro w' hSw
          go_simp
          first | done | with_reducible rfl
        try simp only [Act.put, List.setIfInBounds_toArray, List.set_cons_zero, List.set_cons_succ]
        refine wpAnyH_ready (rs := [6]) (by kernel_rfl) (by simp) ?_
        refine AllReadyH.cons rfl (fun K hK => ?_) ?_
        ·
          go_simp
          refine hK.out _ _ ?_ (fun hHeld => ?_)
          · (try dsimp only)
            first | assumption | exact (bl1 _ _).drew | exact bl2d _ _ _ | exact (Below.refl _ _).drew | exact Below.alloc (by assumption) (Below.size (by assumption)) _
          clear hK K
          refine wpAnyH_take (i := 15) (oi := _) (v := ?_) rfl (by kernel_rfl) (by kernel_rfl) (by kernel_rfl) (fun _ _ _ h => h) (Or.inl ⟨by rfl, ?_⟩) (by assumption) ?_
          rotate_left
          · intro w' hSw
            go_simp
            first | done | with_reducible rfl
          try simp only [Act.put, List.setIfInBounds_toArray, List.set_cons_zero, List.set_cons_succ]
          refine wpAnyH_ready (rs := [17]) (by kernel_rfl) (by simp) ?_
          refine AllReadyH.cons rfl (fun K hK => ?_) ?_
          ·
            go_simp
            refine hK.out _ _ ?_ (fun hHeld => ?_)
            · (try dsimp only)
              first | assumption | exact (bl1 _ _).drew | exact bl2d _ _ _ | exact (Below.refl _ _).drew | exact Below.alloc (by assumption) (Below.size (by assumption)) _
            clear hK K
            refine wpAnyH_done (by kernel_rfl) ?_ _
            go_wp2_with fail
            go_meet
            case rel =>
              rw [HCS.out]
              first
                | exact ⟨w1.heap.size + 1, rfl, blk_two _ _ _ _, hb1.trans ((bl2d _ _ _).mono hz1)⟩
                | exact ⟨w1.heap.size, rfl, ((Blk.new w1 24 #[.string ⟨#[120]⟩, .int .u8 0, .int .u32 0, .int .i64 2, .bool bg, .bool false, .int .i32 mu, .int .i32 ad]).alloc _).drew, hb1.trans ((bl2d _ _ _).mono hz1)⟩
          exact AllReadyH.nil
        exact AllReadyH.nil
      exact AllReadyH.nil
    exact AllReadyH.nil
  case rest =>
    obtain ⟨g, rfl, BX, hbc⟩ := hcut
    obtain rfl := HX.out
    clear HCS HX RS1 hz e0 e0t hz0' hzb hz1 hb1 cS1
    have cX := BX.cell
    have hzc := hbc.size
    have hmf : ∀ (fn : Fn) (first cap : Array Value) (w : World), (Instr.makeFunc fn first cap).run Try.prog w = .ok (.func fn first cap) w := fun _ _ _ _ => rfl
    by_cases hmu : mu ≠ 0 ∧ -16777216 ≤ mu ∧ mu ≤ 16777216
    case neg =>
      rw [HMN.out hmu] at MY
      have hcs : mu = 0 ∨ (mu < -16777216 ∧ ¬ mu = 0) ∨ (16777216 < mu ∧ ¬ mu = 0 ∧ ¬ mu < -16777216) := by omega
      clear hmu HM HMN hmf
      rcases hcs with rfl | ⟨h1, h2⟩ | ⟨h1, h2, h3⟩
      · go_wp2_with fail
        refine (MY.out _).mono ?_
        rintro e w2 ⟨rfl, hb2⟩
        go_wp2_with fail
        go_ret
        exact ⟨rfl, hbc.trans (hb2.mono hzc)⟩
      · have h2b : (mu == 0) = false := by simpa using h2
        go_wp2_with fail
        refine (MY.out _).mono ?_
        rintro e w2 ⟨rfl, hb2⟩
        go_wp2_with fail
        go_ret
        exact ⟨rfl, hbc.trans (hb2.mono hzc)⟩
      · have h2b : (mu == 0) = false := by simpa using h2
        go_wp2_with fail
        refine (MY.out _).mono ?_
        rintro e w2 ⟨rfl, hb2⟩
        go_wp2_with fail
        go_ret
        exact ⟨rfl, hbc.trans (hb2.mono hzc)⟩
    case pos =>
      have hmay := HM.out hmu
      have hn3 : 2 = 1 ∨ 2 = 2 ∨ 2 = 4 := by decide
      obtain ⟨hm0, hm1, hm2⟩ := hmu
      have h2b : (mu == 0) = false := by simpa using hm0
      have PN := Lib.hid fun (v V : Int) (W : World) => put_none _ 2 v V W hxw hmay rfl hn3
      have PO := Lib.hid fun (v V : Int) (W : World) => put_some _ v V W hxw hmay
      have OF := Lib.hid fun (v : Int) (W : World) (hv : loS 2 false ≤ v ∧ v < hiS 2 false) (hB : Blk W g 24 _) => of_any _ 2 v g W hxw hmay rfl hn3 hv hB
      have HOFF := Lib.hid fun (v : Int) => step_off (⟨⟨#[120]⟩, 0, 0, 2, bg, false, mu, ad⟩ : Sy) v hmay
      clear hmay HM HMN MY hxw hn3
      go_wp2_with fail
      refine (PN.out 65536 _ _ (by decide) (by decide) (by (try dsimp only); (try omega))).mono ?_
      rintro e w2 ⟨rfl, hb2⟩
      have B2 := BX.below hb2
      have c2 := B2.cell
      have k2 := hbc.trans (hb2.mono hzc)
      clear cX
      go_wp2_with fail
      refine (PN.out (-1) _ _ (by decide) (by decide) (by (try dsimp only); (try omega))).mono ?_
      rintro e w3 ⟨rfl, hb3⟩
      have B3 := B2.below hb3
      have c3 := B3.cell
      have k3 := k2.trans (hb3.mono k2.size)
      clear c2
      go_wp2_with fail
      refine (PO.out 0 _ _ (by decide) (by (try dsimp only); (try omega))).mono ?_
      have hoff := HOFF.out 0
      obtain ⟨o, ho⟩ : ∃ o, Sy.putV ⟨⟨#[120]⟩, 0, 0, 2, bg, false, mu, ad⟩ (mu * 0 + ad + 1) = o := ⟨_, rfl⟩
      (try dsimp only at hoff ⊢)
      rw [ho] at hoff ⊢
      have HOF := Lib.hid hoff
      clear hoff ho
      cases o with
      | none =>
        rintro e w4 ⟨rfl, hb4⟩
        have B4 := B3.below hb4
        have c4 := B4.cell
        have k4 := k3.trans (hb4.mono k3.size)
        clear c3
        by_cases q1 : mu = 1
        · subst q1
          go_wp2_with fail
          refine (OF.out 0 _ (by decide) B4).mono ?_
          rintro e w5 ⟨rfl, hb5⟩
          have B5 := B4.below hb5
          have c5 := B5.cell
          have k5 := k4.trans (hb5.mono k4.size)
          clear c4
          go_wp2_with fail
          refine (OF.out 65535 _ (by decide) B5).mono ?_
          rintro e w6 ⟨rfl, hb6⟩
          have B6 := B5.below hb6
          have k6 := k5.trans (hb6.mono k5.size)
          go_wp2_with fail
          refine (OF.out 0 _ (by decide) B6).mono ?_
          rintro e w7 ⟨rfl, hb7⟩
          have B7 := B6.below hb7
          have k7 := k6.trans (hb7.mono k6.size)
          go_wp2_with fail
          refine (OF.out 1 _ (by decide) B7).mono ?_
          rintro e w8 ⟨rfl, hb8⟩
          have k8 := k7.trans (hb8.mono k7.size)
          go_wp2_with fail
          go_ret
          exact ⟨rfl, k8⟩
        · have q1b : (mu == 1) = false := by simpa using q1
          by_cases q2 : mu = -1
          · subst q2
            go_wp2_with fail
            refine (OF.out 0 _ (by decide) B4).mono ?_
            rintro e w5 ⟨rfl, hb5⟩
            have B5 := B4.below hb5
            have c5 := B5.cell
            have k5 := k4.trans (hb5.mono k4.size)
            clear c4
            go_wp2_with fail
            refine (OF.out 65535 _ (by decide) B5).mono ?_
            rintro e w6 ⟨rfl, hb6⟩
            have B6 := B5.below hb6
            have k6 := k5.trans (hb6.mono k5.size)
            go_wp2_with fail
            refine (OF.out 0 _ (by decide) B6).mono ?_
            rintro e w7 ⟨rfl, hb7⟩
            have B7 := B6.below hb7
            have k7 := k6.trans (hb7.mono k6.size)
            go_wp2_with fail
            refine (OF.out 1 _ (by decide) B7).mono ?_
            rintro e w8 ⟨rfl, hb8⟩
            have k8 := k7.trans (hb8.mono k7.size)
            go_wp2_with fail
            go_ret
            exact ⟨rfl, k8⟩
          · have q2b : (mu == -1) = false := by simpa using q2
            clear q1 q2
            go_wp2_with fail
            refine (OF.out 0 _ (by decide) B4).mono ?_
            rintro e w5 ⟨rfl, hb5⟩
            have B5 := B4.below hb5
            have c5 := B5.cell
            have k5 := k4.trans (hb5.mono k4.size)
            clear c4
            go_wp2_with fail
            refine (OF.out 65535 _ (by decide) B5).mono ?_
            rintro e w6 ⟨rfl, hb6⟩
            have B6 := B5.below hb6
            have k6 := k5.trans (hb6.mono k5.size)
            go_wp2_with fail
            refine (OF.out 0 _ (by decide) B6).mono ?_
            rintro e w7 ⟨rfl, hb7⟩
            have B7 := B6.below hb7
            have k7 := k6.trans (hb7.mono k6.size)
            go_wp2_with fail
            refine (OF.out 1 _ (by decide) B7).mono ?_
            rintro e w8 ⟨rfl, hb8⟩
            have k8 := k7.trans (hb8.mono k7.size)
            go_wp2_with fail
            go_ret
            exact ⟨rfl, k8⟩
      | some l =>
        rintro e w4 ⟨A4, d4, rfl, ho4, hb4⟩
        have B4 := B3.below hb4
        have c4 := B4.cell
        have k4 := k3.trans (hb4.mono k3.size)
        clear c3
        by_cases q1 : mu = 1
        · subst q1
          go_wp2_with fail
          refine (OF.out 0 _ (by decide) B4).mono ?_
          rintro e w5 ⟨rfl, hb5⟩
          have B5 := B4.below hb5
          have c5 := B5.cell
          have k5 := k4.trans (hb5.mono k4.size)
          clear c4
          go_wp2_with fail
          refine (OF.out 65535 _ (by decide) B5).mono ?_
          rintro e w6 ⟨rfl, hb6⟩
          have B6 := B5.below hb6
          have k6 := k5.trans (hb6.mono k5.size)
          go_wp2_with fail
          refine (OF.out 0 _ (by decide) B6).mono ?_
          rintro e w7 ⟨rfl, hb7⟩
          have B7 := B6.below hb7
          have k7 := k6.trans (hb7.mono k6.size)
          go_wp2_with fail
          refine (OF.out 1 _ (by decide) B7).mono ?_
          rintro e w8 ⟨rfl, hb8⟩
          have k8 := k7.trans (hb8.mono k7.size)
          go_wp2_with fail
          go_ret
          exact ⟨rfl, k8⟩
        · by_cases q2 : mu = -1
          · subst q2
            go_wp2_with fail
            refine (OF.out 0 _ (by decide) B4).mono ?_
            rintro e w5 ⟨rfl, hb5⟩
            have B5 := B4.below hb5
            have c5 := B5.cell
            have k5 := k4.trans (hb5.mono k4.size)
            clear c4
            go_wp2_with fail
            refine (OF.out 65535 _ (by decide) B5).mono ?_
            rintro e w6 ⟨rfl, hb6⟩
            have B6 := B5.below hb6
            have k6 := k5.trans (hb6.mono k5.size)
            go_wp2_with fail
            refine (OF.out 0 _ (by decide) B6).mono ?_
            rintro e w7 ⟨rfl, hb7⟩
            have B7 := B6.below hb7
            have k7 := k6.trans (hb7.mono k6.size)
            go_wp2_with fail
            refine (OF.out 1 _ (by decide) B7).mono ?_
            rintro e w8 ⟨rfl, hb8⟩
            have k8 := k7.trans (hb8.mono k7.size)
            go_wp2_with fail
            go_ret
            exact ⟨rfl, k8⟩
          · exact absurd (HOF.out q1 q2) (by simp)
end Go.Proofs.Ytmcmlglacblkiaa
