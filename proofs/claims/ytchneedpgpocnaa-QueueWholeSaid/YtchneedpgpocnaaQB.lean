/- QueueBounds: the walk. -/
import Derived.Test.YtchneedpgpocnaaQF
namespace Go.Proofs.Ytchneedpgpocnaa
open Go.RowKit
set_option linter.unusedVariables false
set_option linter.unusedSimpArgs false
def badK (ks : List (Int × Int × List Int)) : Bool := ks.any fun k => decide (64 ≤ k.2.1)
def apNo (list : Int) (ks : List (Int × Int × List Int)) : Bool := decide (list < 0) || decide (4 ≤ list) || ks.isEmpty || badK ks
def apOk (a : Aq) (list : Int) (ks : List (Int × Int × List Int)) : Bool := !apNo list ks && fitsQ a ks.length
def apQ (a : Aq) (list : Int) (ks : List (Int × Int × List Int)) : Aq := if apNo list ks then a else aput a list.toNat ks
theorem badK_eq (l : List It) : badK (l.map It.key) = bad l := by
  unfold badK bad
  rw [List.any_map]
  rfl
theorem bumpK_len (b : Bool) (ks : List (Int × Int × List Int)) : (bumpK b ks).length = ks.length := by
  cases ks with
  | nil => rfl
  | cons k r => obtain ⟨x, y, z⟩ := k; cases b <;> rfl
theorem apQ_len (a : Aq) (list : Int) (ks : List (Int × Int × List Int)) : (apQ a list ks).l.length = (if apOk a list ks then a.l.length + ks.length else a.l.length) ∧ (apQ a list ks).most = a.most := by
  unfold apQ apOk
  cases apNo list ks
  · simp only [Bool.false_eq_true, if_false, Bool.not_false, Bool.true_and]
    unfold aput
    split
    · simp [bumpK_len]
    · simp
  · simp
theorem apOk_fits (a : Aq) (list : Int) (ks : List (Int × Int × List Int)) (h : apOk a list ks = true) : (a.l.length : Int) + ks.length ≤ a.most := by
  unfold apOk fitsQ at h
  simp only [Bool.and_eq_true, decide_eq_true_eq] at h
  exact h.2
/-- Put of an act's packets. -/
theorem QJ.putFew {W0 : World} {base q : Nat} {a : Aq} (h : QJ W0 base q a) (hb : base ≤ W0.heap.size) {o : Ac} {bf B : Nat} (ho : AcFew W0 bf B o) (hq1 : ∀ g, blkOf o.A = some g → g < base ∧ g ≠ q) (hBq : B ≤ q) (hBb : B ≤ base) (hal : a.l.length ≤ 1000000) :
    Calls Try.prog 12 #[.pointer (some ⟨q, 0, none⟩), .int .i64 o.list, .slice o.A o.n o.c] W0 fun e w' => e = .returned (.bool (apOk a o.list (o.its.map It.key))) ∧ QJ w' base q (apQ a o.list (o.its.map It.key)) ∧ Chg (jF W0 base q) W0 w' := by
  obtain ⟨h1, h2, h3, h4, h5, h6, h7, h8⟩ := ho
  cases hno : apNo o.list (o.its.map It.key)
  · simp only [apNo, Bool.or_eq_false_iff, decide_eq_false_iff_not] at hno
    obtain ⟨⟨⟨n1, n2⟩, n3⟩, n4⟩ := hno
    obtain ⟨j, hj⟩ : ∃ j : Nat, o.list = j := ⟨o.list.toNat, by omega⟩
    have hlk : (o.its.map It.key).length = o.n := by rw [List.length_map, h5]
    have hpos : 0 < o.n := by
      rw [← hlk]
      cases hk : o.its.map It.key with
      | nil => rw [hk] at n3; simp at n3
      | cons x r => simp
    rw [badK_eq] at n4
    have hcode : ∀ t ∈ o.its, 0 ≤ t.code ∧ t.code < 64 := fun t ht => by
      refine ⟨(h8 t ht).1.2.2.1, ?_⟩
      have := n4
      rw [bad, List.any_eq_false] at this
      have := this t ht
      simpa using this
    have hit : ItRd W0 o.its := fun t ht => by
      obtain ⟨⟨p1, p2, p3, p4, p5, p6, p7, p8, p9⟩, p10⟩ := h8 t ht
      exact ⟨p5, by omega, p8, p9.more (by omega), p6, p7⟩
    have e1 : apNo o.list (o.its.map It.key) = false := by
      simp only [apNo, Bool.or_eq_false_iff, decide_eq_false_iff_not]
      exact ⟨⟨⟨n1, n2⟩, n3⟩, by rw [badK_eq]; exact n4⟩
    unfold apOk apQ
    rw [e1, hlk, hj]
    simp only [Bool.not_false, Bool.true_and, Bool.false_eq_true, if_false, Int.toNat_natCast]
    refine h.put hb j (by omega) o.A o.n o.c o.its _ _ h5 hpos (by omega) h7.rd hit hcode hal (fun g hg => ?_) rfl rfl
    rcases hg with hg | ⟨t, ht, hne, hg⟩
    · exact hq1 g hg
    · obtain ⟨⟨p1, p2, p3, p4, p5, p6, p7, p8, p9⟩, p10⟩ := h8 t ht
      obtain ⟨b, o', e, hlt, -⟩ := p9 (by intro h; apply hne; simpa using h)
      rw [e] at hg
      simp [blkOf] at hg
      omega
  · have hcs : o.list < 0 ∨ 4 ≤ o.list ∨ o.n = 0 ∨ bad o.its = true := by
      simp only [apNo, Bool.or_eq_true, decide_eq_true_eq, badK_eq] at hno
      rcases hno with ((hno | hno) | hno) | hno
      · exact .inl hno
      · exact .inr (.inl hno)
      · refine .inr (.inr (.inl ?_))
        rw [← h5]
        cases hk : o.its with
        | nil => rfl
        | cons x r => rw [hk] at hno; simp at hno
      · exact .inr (.inr (.inr hno))
    refine (put_no ⟨q, 0, none⟩ o.list o.A o.n o.c o.its W0 h5 (by unfold maxLen; omega) h7.rd hcs).mono ?_
    rintro e w' ⟨rfl, hb'⟩
    unfold apOk apQ
    rw [hno]
    exact ⟨rfl, h.below hb', Chg.of_below hb' _⟩
theorem AcFew.jchg {w w' : World} {base q bf B : Nat} {a : Ac} (h : AcFew w bf B a) (hc : Chg (jF w base q) w w') (hq1 : ∀ g, blkOf a.A = some g → g < base ∧ g ≠ q) (hBq : B ≤ q) (hBb : B ≤ base) (hB : B ≤ w.heap.size) : AcFew w' bf B a := by
  refine h.chg hc (fun g hg hf => ?_) hB (fun g hg hf => ?_)
  · have := hq1 g hg
    rcases hf with hf | ⟨hf, _⟩ <;> omega
  · rcases hf with hf | ⟨hf, _⟩ <;> omega
set_option maxRecDepth 100000 in
set_option maxHeartbeats 4000000 in
theorem bounds_no (most : Int) (v : Value) (w : World) (h : most < 1 ∨ 64 < most) :
    Calls Try.prog 7 #[.int .i64 most, v] w fun e w' => e = .returned (.bool true) ∧ Below w.heap.size w w' := by
  have C := Lib.hid (fun W => new_no most W h)
  have hd : (decide (1 ≤ most) && decide (most ≤ 64)) = false := by simp; omega
  rcases h with h | h
  case' inl => have h' : most < 1 := h
  case' inr => have h' : 64 < most := h; have h1' : 1 ≤ most := by omega
  all_goals
    go_enter Try.func7, Try.ntmps7
    go_wp2_with fail
    refine (shown_any _).mono ?_
    rintro e w1 ⟨rfl, b1⟩
    have z1 := b1.size
    go_wp2_with fail
    refine (C.out _).mono ?_
    rintro e w' ⟨rfl, rfl⟩
    go_wp2_with fail
    refine (put_nil _ _ _).mono ?_
    rintro e w' ⟨rfl, rfl⟩
    go_wp2_with fail
    refine (len_nil _).mono ?_
    rintro e w' ⟨rfl, rfl⟩
    go_wp2_with fail
    go_ret
    exact ⟨rfl, b1.alloc z1 _⟩
set_option maxRecDepth 100000 in
set_option maxHeartbeats 8000000 in
theorem bounds_yes (most : Int) (A : Option Addr) (n c : Nat) (l : List Ac) (w : World) (hm1 : 1 ≤ most) (hm2 : most ≤ 64) (hx : l.length = n) (hl : n ≤ maxLen) (hr : Rd w w.heap.size A (cellsA l)) (hin : ∀ a ∈ l, AcIn w w.heap.size a) :
    Calls Try.prog 7 #[.int .i64 most, .slice A n c] w fun e w' => e = .returned (.bool true) ∧ Below w.heap.size w w' := by
  have C := Lib.hid (fun W => new_QJ most W hm1 hm2)
  go_enter Try.func7, Try.ntmps7
  go_wp2_with fail
  refine (shown_any _).mono ?_
  rintro e w1 ⟨rfl, b1⟩
  have z1 := b1.size
  go_wp2_with fail
  refine (C.out _).mono ?_
  rintro e w2 ⟨q, rfl, hq, Q2, b2⟩
  have b2' := b1.trans (b2.mono z1)
  have z2 := b2'.size
  have hqw : w.heap.size ≤ q := by omega
  have hq2 := (Q2 0).lt
  have F := Lib.hid (few_any A n c l w2 w.heap.size z2 hx hl ((hr.below b2').more z2) (fun a ha => by
    obtain ⟨a1, a2, a3, a4, a5, a6, a7, a8⟩ := hin a ha
    exact ⟨a1, a2, a3, a4, a5, a6, (a7.below b2').more z2, fun t ht => by
      obtain ⟨p1, p2, p3, p4, p5, p6, p7, p8, p9⟩ := a8 t ht
      exact ⟨p1, p2, p3, p4, p5, p6, p7, p8, p9.below b2'⟩⟩))
  go_wp2_with fail
  refine F.out.mono ?_
  rintro e w3 ⟨AF, cF, outs, rfl, h60, hoF, hF, b3⟩
  have b3' := b2'.trans (b3.mono z2)
  have z3 := b3'.size
  have z23 := b3.size
  obtain ⟨N, hN⟩ : ∃ N, outs.length = N := ⟨_, rfl⟩
  rw [hN] at hoF h60
  have HN := Lib.hid hN
  have HF := Lib.hid hF
  have Q3 := (Q2 w3.heap.size).below b3
  clear hF F C
  go_wp2_with fail
  clear hN
  have HG := Lib.hid (show ∀ o ∈ outs, ∀ g, blkOf o.A = some g → g < w3.heap.size ∧ g ≠ q from fun o ho g hg => by
    have := (HF.out o ho).2.2.2.2.2.2.1.lt hg
    omega)
  go_loopw [52] (fun i wr => ∃ (k : Nat) (a : Aq), k ≤ N ∧ i = .int .i64 k ∧ a.most = most ∧ a.l.length ≤ most ∧ QJ wr w3.heap.size q a ∧ Own wr w2.heap.size 48 3 AF N cF (cellsA outs) ∧ (∀ o ∈ outs, AcFew wr w2.heap.size w.heap.size o) ∧ w3.heap.size ≤ wr.heap.size ∧ Below w.heap.size w wr) (fun i _ => N - (intOf i).toNat)
  case atStart => exact ⟨0, ⟨most, [], [false, false, false, false]⟩, Nat.zero_le _, rfl, rfl, by simp; omega, Q3, hoF, HF.out, Nat.le_refl _, b3'⟩
  case round =>
    obtain ⟨k, a, hk, rfl, ham, hal, hQ, hoF2, hF2, hz3, hbr⟩ := hrel
    have hzr := hbr.size
    have HF2 := Lib.hid hF2
    have hoF0 := fun g (hg : blkOf AF = some g) => hoF.lt hg
    clear hF2 Q3 hoF Q2
    by_cases hlt : k < N
    · have hlt' : (k : Int) < N := by omega
      obtain ⟨o, ho⟩ : ∃ o, outs[k]? = some o := ⟨_, List.getElem?_eq_getElem (by rw [HN.out]; exact hlt)⟩
      have hmem := List.mem_of_getElem? ho
      have AFo := HF2.out o hmem
      have hgo := HG.out o hmem
      have hne : cellsA outs ≠ [] := by intro h; have h2 := cellsA_len outs; rw [h, HN.out] at h2; simp at h2; omega
      obtain ⟨b, ofs, ea, -, hc⟩ := hoF2.rd hne
      obtain ⟨g0, g1, g2⟩ := cellsA_get outs k o ho
      have r0 := hc _ _ g0
      have r1 := hc _ _ g1
      have r2 := hc _ _ g2
      rw [← Nat.add_assoc] at r1 r2
      have hAg := hoF0 b (by rw [ea]; rfl)
      clear hc g0 g1 g2 ho
      obtain ⟨ok, ol, oA, on, oc, oits⟩ := o
      dsimp only at r0 r1 r2
      have hk0 : 0 ≤ ok := AFo.1
      have hk1 : ok < 256 := AFo.2.1
      have hon : on ≤ 6 := AFo.2.2.2.2.2.1
      have hlen : (oits.map It.key).length = on := by rw [List.length_map]; exact AFo.2.2.2.2.1
      subst ea
      go_upto_region 10 with fail
      refine wp_named fun W1 hW => ?_
      obtain ⟨B48, hbW⟩ := blk1 hW
      clear hW
      have hzW := hbW.size
      have hQ1 := hQ.below hbW
      have AF1 := AFo.below hbW (by omega)
      have L1 := Lib.hid hQ1.len
      have hal1 : a.l.length ≤ 1000000 := by omega
      have P := Lib.hid (hQ1.putFew (by omega) AF1 hgo hqw (by omega) hal1)
      clear hQ1 AF1 hQ
      dsimp only at P
      obtain ⟨e1, e2⟩ := apQ_len a ol (oits.map It.key)
      have efit := apOk_fits a ol (oits.map It.key)
      obtain ⟨f, hf⟩ : ∃ f, apOk a ol (oits.map It.key) = f := ⟨_, rfl⟩
      obtain ⟨a', ha'⟩ : ∃ a', apQ a ol (oits.map It.key) = a' := ⟨_, rfl⟩
      rw [hf] at P e1 efit
      rw [ha'] at P e1 e2
      rw [hlen] at e1 efit
      clear hf ha' hlen
      obtain ⟨m, hm⟩ : ∃ m, a.l.length = m := ⟨_, rfl⟩
      rw [hm] at L1 e1 hal efit
      obtain ⟨m', hm'⟩ : ∃ m', a'.l.length = m' := ⟨_, rfl⟩
      rw [hm'] at e1
      have bc := B48.cell
      have bf := B48.frozen
      go_wp2_with fail
      refine L1.out.mono ?_
      rintro e w' ⟨rfl, rfl⟩
      go_wp2_with fail
      refine P.out.mono ?_
      rintro e W2 ⟨rfl, hQ2, hch⟩
      have B2 := B48.jchg hch (by omega) (.inl (by decide))
      have bc2 := B2.cell
      have bf2 := B2.frozen
      have hz2' := hch.size
      have hoF3 : Own W2 w2.heap.size 48 3 (some ⟨b, ofs, none⟩) N cF (cellsA outs) := by
        refine (hoF2.below hbW).chg hch (fun g hg hf => ?_)
        have := hoF0 g hg
        rcases hf with hf | hf <;> omega
      have HF3 := Lib.hid (show ∀ o ∈ outs, AcFew W2 w2.heap.size w.heap.size o from fun o' ho' => ((HF2.out o' ho').below hbW (by omega)).jchg hch (HG.out o' ho') hqw (by omega) (by omega))
      have hb2 : Below w.heap.size w W2 := (hbr.trans (hbW.mono hzr)).trans (hch.below (fun g _ hf => by rcases hf with hf | hf <;> omega) (by omega))
      have L2 := Lib.hid fun nq => (hQ2.below (bel_drewN (Below.refl _ _) nq)).len.mono (R' := fun e w' => e = .returned (.int .i64 m') ∧ w' = W2.drewN nq) (by rintro e w' ⟨rfl, rfl⟩; exact ⟨by rw [hm'], rfl⟩)
      clear bc bf B48 hoF2 L1 P hch
      have FIN := Lib.hid (show ∀ (W : World) (a2 : Aq) (i : Value), QJ W w3.heap.size q a2 → a2.most = most → (a2.l.length : Int) ≤ most → Chg (fun g => g = q) W2 W → i = .int .i64 ((k + 1 : Nat) : Int) → ∃ (k' : Nat) (a : Aq), k' ≤ N ∧ i = .int .i64 k' ∧ a.most = most ∧ (a.l.length : Int) ≤ most ∧ QJ W w3.heap.size q a ∧ Own W w2.heap.size 48 3 (some ⟨b, ofs, none⟩) N cF (cellsA outs) ∧ (∀ o ∈ outs, AcFew W w2.heap.size w.heap.size o) ∧ w3.heap.size ≤ W.heap.size ∧ Below w.heap.size w W from fun W a2 i x1 x2 x3 x4 x5 => by
        have := x4.size
        refine ⟨k + 1, a2, by omega, x5, x2, x3, x1, hoF3.chg x4 (fun g hg e => by have := hoF0 g hg; omega), fun o' ho' => (HF3.out o' ho').chg x4 (fun g hg e => (HG.out o' ho' g hg).2 e) (by omega) (fun g hg e => by omega), by omega, hb2.trans (x4.below (fun g _ e => by omega) (by omega))⟩)
      have hm2 : a'.most = most := by rw [e2]; exact ham
      have T2 := Lib.hid fun nq => hQ2.below (bel_drewN (Below.refl _ _) nq)
      have NX := Lib.hid fun nq (h : a'.l.length ≤ 1000000) => (T2.out nq).nextAny h
      have CH := Lib.hid fun nq => Chg.of_below (bel_drewN (Below.refl W2.heap.size W2) nq) (fun g => g = q)
      clear hQ2 e2 hb2 hoF3
      cases f
      case' false =>
        simp only [Bool.false_eq_true, if_false] at e1
        subst e1
        have hgt : (m' : Int) ≤ most := hal
      case' true =>
        simp only [if_true] at e1
        have efit := efit rfl
        have e1' : (m' : Int) = (m : Int) + on := by omega
        have hgt : (m' : Int) ≤ most := by omega
        have hw : IntKind.i64.wrap ((m : Int) + on) = (m' : Int) := by rw [IntKind.wrap_i64]; omega
        clear e1'
      all_goals
        go_wp2_with fail
        go_quiet ((go_at_call 13; exact Calls.quiet_of_same (L2.out _)))
        have bc3 := (B2.below (bel_drewN (Below.refl _ _) nq)).cell
        have bf3 := (B2.below (bel_drewN (Below.refl _ _) nq)).frozen
        clear bc2 bf2
        by_cases h3 : ok % 3 = 0
        · go_wp2_with fail
          refine (NX.out nq (by omega)).mono ?_
          rintro e W3 ⟨v, bb, rfl, hQ3, hc3⟩
          go_wp2_with fail
          go_roundw
          case rel => exact FIN.out _ _ _ hQ3 hm2 (by have := List.length_tail (l := a'.l); simp only [List.length_tail]; omega) ((CH.out nq).trans hc3 (fun _ _ h => h)) (by go_num)
          case measure => simp [intOf]; omega
        · go_wp2_with fail
          go_roundw
          case rel => exact FIN.out _ _ _ (T2.out nq) hm2 (by omega) (CH.out nq) (by go_num)
          case measure => simp [intOf]; omega
    · obtain rfl : k = N := by omega
      clear HF2 HF HG hoF2 HN
      have CL := Lib.hid hQ.clear
      clear hQ
      go_wp2_with fail
      refine CL.out.mono ?_
      rintro e W2 ⟨rfl, hQ2, hc2⟩
      have hz2' := hc2.size
      have hb2 : Below w.heap.size w W2 := hbr.trans (hc2.below (fun g _ e => by omega) hzr)
      have hqW : q < W2.heap.size := by omega
      rw [ham] at hQ2
      obtain ⟨X, hX⟩ : ∃ X, (W2.alloc (.cells #[.int .u8 1] 5)).alloc (.cells #[.int .u8 0, .int .u8 0, .slice (some ⟨W2.heap.size, 0, none⟩) 1 1] 31) = X := ⟨_, rfl⟩
      obtain ⟨B5, B31, hbX⟩ := blk2 hX.symm
      have hzX : X.heap.size = W2.heap.size + 1 + 1 := by rw [← hX]; simp
      have hr1 := rdnew2 W2 (.cells #[.int .u8 1] 5) [.int .u8 0, .int .u8 0, .slice (some ⟨W2.heap.size, 0, none⟩) 1 1] 31
      have hr2 := ((Rd.one W2 (.int .u8 1) 5).alloc (by simp) (.cells #[.int .u8 0, .int .u8 0, .slice (some ⟨W2.heap.size, 0, none⟩) 1 1] 31)).more (B' := X.heap.size) (by omega)
      have hQX := (hQ2 X.heap.size).below hbX
      have P := QJ.put hQX (Nat.le_refl _) 0 (by decide) (some ⟨W2.heap.size + 1, 0, none⟩) 1 1 [⟨0, 0, some ⟨W2.heap.size, 0, none⟩, 1, 1, [1]⟩] true ⟨most, [(0, 0, [1])], [false, false, false, false]⟩ rfl (by decide) (by decide)
        (by rw [hzX, ← hX]; exact hr1) (fun t ht => by
          simp at ht; subst ht
          exact ⟨rfl, Nat.le_of_ble_eq_true rfl, by simp, by rw [← hX] at hr2 ⊢; exact hr2, Nat.le_refl _, Nat.le_of_ble_eq_true rfl⟩)
        (fun t ht => by simp at ht; subst ht; exact ⟨Int.le_refl _, by dsimp only; omega⟩) (by simp) (fun g hg => by
          rcases hg with hg | ⟨t, ht, -, hg⟩
          · simp [blkOf] at hg; omega
          · simp at ht; subst ht; simp [blkOf] at hg; omega) (by simp [fitsQ]; omega) (by
          unfold aput
          rw [if_pos (by simp [fitsQ]; omega)]
          rfl)
      have P : Calls Try.prog 12 #[.pointer (some ⟨q, 0, none⟩), .int .i64 0, .slice (some ⟨W2.heap.size + 1, 0, none⟩) 1 1] X _ := P
      have P := Lib.hid P
      clear hr1 hr2 hQ2
      go_wp2_with fail
      refine P.out.mono ?_
      rintro e W4 ⟨rfl, hQ4, hc4⟩
      have hz4 := hc4.size
      have B5' := B5.jchg hc4 (by omega) (.inl (by decide))
      have b5c := B5'.cell
      have b5f := B5'.frozen
      have hS : Chg (fun g => g = W2.heap.size) W4 (W4.setCell ⟨W2.heap.size, 0, none⟩ (.int .u8 2)) := (Chg.refl (fun g => g = W2.heap.size) _).at_ (q := W2.heap.size) (Eq.refl _) _ _
      have NX := Lib.hid ((hQ4.chg hS (by omega) (fun g e => by omega)).next (by simp))
      have hb4 : Below w.heap.size w (W4.setCell ⟨W2.heap.size, 0, none⟩ (.int .u8 2)) := ((hb2.trans (hbX.mono (by omega))).trans (hc4.below (fun g _ hf => by rcases hf with hf | hf <;> omega) (by omega))).trans (hS.below (fun g _ e => by omega) (by omega))
      have hz5 := hb4.size
      clear hQ4 hQX B5 P
      go_wp2_with fail
      refine NX.out.mono ?_
      rintro e W5 ⟨A5, n5, c5, rfl, hn5, ho5, -, hc5⟩
      have hb5 : Below w.heap.size w W5 := hb4.trans (hc5.below (fun g _ e => by omega) hz5)
      have hz6 := hb5.size
      have cv := ho5.conv (P := Try.prog) (src := 22) (dst := 9) (e := 5) rfl rfl rfl hn5.symm _ ((Below.refl W5.heap.size W5).alloc (Nat.le_refl _) (.cells #[.int .u8 0, .int .u8 0, .slice A5 n5 c5] 31))
      rw [show bstr [1] = ⟨#[1]⟩ from rfl] at cv
      go_wp2_with fail
      go_ret
      exact ⟨rfl, hb5.alloc hz6 _⟩
end Go.Proofs.Ytchneedpgpocnaa
