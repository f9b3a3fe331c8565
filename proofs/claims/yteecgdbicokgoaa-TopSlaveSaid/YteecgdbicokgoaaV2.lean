/- TopSlave: mem.Set, Concat of rows, split.Join; the walk. -/
import Derived.Test.YteecgdbicokgoaaV1
import Derived.Test.YteecgdbicokgoaaD0
import Derived.Test.YteecgdbicokgoaaM4
import Derived.Test.YteecgdbicokgoaaW0
import Derived.Lib.MinMax
namespace Go.Proofs.Yteecgdbicokgoaa
open Go.RowKit Go.Shelf
set_option linter.unusedVariables false
set_option linter.unusedSimpArgs false
set_option maxRecDepth 100000
theorem ofl_one {w : World} {q gs cp : Nat} {Ap : Option Addr} {a x : Int} (hq : Blk w q 110 #[.pointer (some ⟨gs, 0, none⟩)]) (hB : Blk w gs 114 #[.slice Ap 2 cp, .int .i64 a, .int .i64 x]) {p : Int} (hp : 0 ≤ p ∧ p ≤ 1) :
    Calls Try.prog 61 #[.int .i64 p, .pointer (some ⟨q, 0, none⟩)] w fun e w' => e = .returned (.bool false) ∧ w = w' := by
  have cq := hq.cell
  have cB := hB.cell
  have WI := Lib.hid (within_any p 0 1 w)
  rw [show (decide ((0 : Int) ≤ p) && decide (p ≤ 1)) = true by simp; omega] at WI
  go_enter Try.func61, Try.ntmps61
  go_wp2_with fail
  refine WI.out.mono ?_
  rintro e w' ⟨rfl, rfl⟩
  go_wp2_with fail
  go_ret
  exact ⟨rfl, rfl⟩
theorem find_one {w : World} {g : Nat} {p : Int} {c : Value} (hB : Blk w g 3 #[.int .i64 p]) (hf : Calls Try.prog 61 #[.int .i64 p, c] w fun e w' => e = .returned (.bool false) ∧ w = w') :
    Calls Try.prog 87 #[.slice (some ⟨g, 0, none⟩) 1 1, .func (.func 61) #[] #[c]] w fun e w' => e = .returned (.int .i64 (-1)) ∧ w = w' := by
  have HB := Lib.hid hB
  have HF := Lib.hid hf
  clear hB hf
  go_enter Try.func87, Try.ntmps87
  go_wp2_with fail
  go_loopw [8] (fun i wr => ∃ k : Nat, k ≤ 1 ∧ i = .int .i64 k ∧ w = wr) (fun i _ => 1 - (intOf i).toNat)
  case atStart => exact ⟨0, by omega, rfl, rfl⟩
  case round =>
    obtain ⟨k, hk, rfl, rfl⟩ := hrel
    rcases (by omega : k = 0 ∨ k = 1) with rfl | rfl
    · have cB := HB.out.cell
      go_wp2_with (go_at_call 61; refine HF.out.mono ?_; rintro e w1 ⟨rfl, rfl⟩)
      go_roundw
      case rel => exact ⟨1, by omega, by first | trivial | rfl, by first | trivial | rfl⟩
      case measure => simp [intOf]
    · go_wp2_with fail
      go_ret
      exact ⟨rfl, rfl⟩
theorem cont_one {w : World} {g : Nat} {p : Int} {c : Value} (hB : Blk w g 3 #[.int .i64 p]) (hf : Calls Try.prog 61 #[.int .i64 p, c] w fun e w' => e = .returned (.bool false) ∧ w = w') :
    Calls Try.prog 60 #[.slice (some ⟨g, 0, none⟩) 1 1, .func (.func 61) #[] #[c]] w fun e w' => e = .returned (.bool false) ∧ w = w' := by
  have FO := Lib.hid (find_one hB hf)
  clear hB hf
  go_enter Try.func60, Try.ntmps60
  go_wp2_with fail
  refine FO.out.mono ?_
  rintro e w' ⟨rfl, rfl⟩
  go_wp2_with fail
  go_ret
  exact ⟨rfl, rfl⟩
/-- The one segment, where the page that is asked for is there. -/
theorem of_one {w : World} {m gr gs ga oa cs cp g : Nat} {Ap : Option Addr} {a x : Int} (hm : Blk w m 125 #[.slice (some ⟨gr, 0, none⟩) 64 64, .slice (some ⟨ga, oa, none⟩) 1 cs]) (hA : w.cell? ⟨ga, oa, none⟩ = some (.pointer (some ⟨gs, 0, none⟩))) (hB : Blk w gs 114 #[.slice Ap 2 cp, .int .i64 a, .int .i64 x])
    {p : Int} (hp : 0 ≤ p ∧ p ≤ 1) (hP : Blk w g 3 #[.int .i64 p]) :
    Calls Try.prog 41 #[.pointer (some ⟨m, 0, none⟩), .int .i64 0, .slice (some ⟨g, 0, none⟩) 1 1] w fun e w' => e = .returned (.pointer (some ⟨gs, 0, none⟩)) ∧ Below w.heap.size w w' := by
  have cm := hm.cell
  have WI := Lib.hid (within_any 0 0 0 w)
  have HP := Lib.hid hP
  have HB := Lib.hid hB
  have hmf : ∀ (fn : Fn) (first cap : Array Value) (w : World), (Instr.makeFunc fn first cap).run Try.prog w = .ok (.func fn first cap) w := fun _ _ _ _ => rfl
  clear hm hP hB
  go_enter Try.func41, Try.ntmps41
  go_wp2_with fail
  refine WI.out.mono ?_
  rintro e w' ⟨rfl, rfl⟩
  go_upto_region 4 with fail
  refine wp_named fun W hW => ?_
  obtain ⟨BW, hbW⟩ := blk1 hW
  have cW := BW.cell
  have CO := Lib.hid (cont_one (HP.out.below hbW) (ofl_one BW (HB.out.below hbW) hp))
  have HW := Lib.hid hbW
  clear hW hbW BW cm hA WI
  go_wp2_with fail
  refine CO.out.mono ?_
  rintro e w' ⟨rfl, rfl⟩
  go_wp2_with fail
  go_ret
  exact ⟨rfl, HW.out⟩
theorem mset_any {w : World} {L T m : Nat} {M : Mx} {S : Sg} (h : MAt w L T m M) (hS : M.seg = some S) {p : Nat} (hp : p ≤ 1) :
    Calls Try.prog 14 #[.pointer (some ⟨m, 0, none⟩), .int .u8 2, .int .i64 0, .int .i64 p] w fun e w' => e = .returned (.int .i64 0) ∧ MAt w' L T m { M with seg := some { S with x := p } } ∧ ChR L [] L T w w' := by
  obtain ⟨gr, As, ns, cs, h⟩ := h
  have hs := h.sg
  rw [hS] at hs
  obtain ⟨rfl, gs, Ap, cp, g0, g1, q1, q2, q3, q4, q5, q6, q7, q8, q9, q10, q11⟩ := hs
  obtain ⟨ga, oa, rfl⟩ := q1.at_ (by decide)
  have hA := q1.cells 0 _ rfl
  rw [Nat.add_zero] at hA
  have hb1 := bl1 w (.cells #[.int .i64 p] 3)
  have hA1 : (w.alloc (.cells #[.int .i64 p] 3)).cell? ⟨ga, oa, none⟩ = some (.pointer (some ⟨gs, 0, none⟩)) := by
    rw [World.cell?_alloc_lt _ _ _ (q1.lt (g := ga) rfl).2]
    exact hA
  have OF := Lib.hid (of_one (h.b.below hb1) hA1 (q4.below hb1) (p := (p : Int)) (by omega) (Blk.new w 3 #[.int .i64 p]))
  have HH := Lib.hid (And.intro h (And.intro q4 hb1))
  have HQ := Lib.hid (And.intro q1 (And.intro q2 (And.intro q3 (And.intro q5 (And.intro q6 (And.intro q7 (And.intro q8 (And.intro q9 (And.intro q10 q11)))))))))
  have b1 : bits .and .u8 2 1 = 0 := by decide
  have b2 : bits .and .u8 2 2 = 2 := by decide
  clear h q1 q2 q3 q4 q5 q6 q7 q8 q9 q10 q11 hb1 hA hA1
  go_enter Try.func14, Try.ntmps14
  go_wp2_with fail
  refine OF.out.mono ?_
  rintro e w1 ⟨rfl, hb⟩
  have hb01 : Below w.heap.size w w1 := HH.out.2.2.trans (hb.mono HH.out.2.2.size)
  have HB1 := Lib.hid hb01
  clear hb hb01 OF
  go_wp2_with fail
  refine wp_named fun W hW => ?_
  obtain ⟨BW, hbW⟩ := blk1 hW
  have cW := BW.cell
  have hb0W : Below w.heap.size w W := HB1.out.trans (hbW.mono HB1.out.size)
  have B4 := HH.out.2.1.below hb0W
  have c4 := B4.cell
  have f4 := B4.frozen
  have HW := Lib.hid (And.intro hb0W B4)
  have hlW := B4.lt
  clear hW hbW BW hb0W
  go_loopw [31] (fun iv wr => ∃ k : Nat, k ≤ 2 ∧ iv = .int .i64 k ∧ ((k ≤ 1 ∧ wr = W) ∨ (k = 2 ∧ wr = W.setCell ⟨gs, 2, none⟩ (.int .i64 p)))) (fun iv _ => 2 - (intOf iv).toNat)
  case atStart => exact ⟨0, by omega, rfl, .inl ⟨by omega, rfl⟩⟩
  case round =>
    obtain ⟨k, hk, rfl, hw⟩ := hrel
    rcases (by omega : k = 0 ∨ k = 1 ∨ k = 2) with rfl | rfl | rfl
    · obtain rfl : wr = W := by
        rcases hw with ⟨_, h⟩ | ⟨h, _⟩
        · exact h
        · omega
      clear hw
      go_wp2_with fail
      go_roundw
      case rel => exact ⟨1, by omega, by first | trivial | rfl, .inl ⟨by omega, by first | trivial | rfl⟩⟩
      case measure => simp [intOf]
    · obtain rfl : wr = W := by
        rcases hw with ⟨_, h⟩ | ⟨h, _⟩
        · exact h
        · omega
      clear hw
      go_wp2_with fail
      go_roundw
      case rel => exact ⟨2, by omega, by first | trivial | rfl, .inr ⟨by first | trivial | rfl, by first | trivial | rfl⟩⟩
      case measure => simp [intOf]
    · obtain rfl : wr = W.setCell ⟨gs, 2, none⟩ (.int .i64 p) := by
        rcases hw with ⟨h, _⟩ | ⟨_, h⟩
        · omega
        · exact h
      clear hw
      go_wp2_with fail
      go_ret
      have hgr : W.grownBy (W.setCell ⟨gs, 2, none⟩ (.int .i64 p)) (some gs) := grown_setCells gs [.int .i64 p] 2 W
      obtain ⟨h, -, -⟩ := HH.out
      obtain ⟨q1, q2, q3, q5, q6, q7, q8, q9, q10, q11⟩ := HQ.out
      have hb := HW.out.1
      have hK : ∀ {g : Nat} {t : TypeId} {cs : Array Value}, Blk w g t cs → t ≠ 114 → Blk (W.setCell ⟨gs, 2, none⟩ (.int .i64 p)) g t cs := fun hB ht => (hB.below hb).grown hgr (fun e => by
        injection e with e
        subst e
        exact ht (blk_ty (hB.below hb) HW.out.2))
      have hO : ∀ {e : TypeId} {n c : Nat} {A : Option Addr} {xs : List Value}, Own w L e 1 A n c xs → e ≠ 114 → Own (W.setCell ⟨gs, 2, none⟩ (.int .i64 p)) L e 1 A n c xs := fun hOw ht => (hOw.below hb).grown hgr (by
        rename_i e n c A xs
        rcases hA : blkOf A with _ | q
        · exact .inl rfl
        · exact .inr (fun e => by injection e with e; exact (hOw.below hb).ne_blk hA HW.out.2 ht e))
      refine ⟨rfl, ⟨gr, some ⟨ga, oa, none⟩, 1, cs, ?_⟩, ?_⟩
      · have hok := h.ok
        have hsk := hok.sg S hS
        refine ⟨⟨hok.lr, fun S' hS' => ?_⟩, Nat.le_trans h.tz (Nat.le_trans hb.size hgr.size), h.mb, hK h.b (by decide), h.r, hK h.ram (by decide), rfl, gs, Ap, cp, g0, g1, hO q1 (by decide), q2, q3, ?_, hO q5 (by decide), q6, q7, hK q8 (by decide), q9, hK q10 (by decide), q11⟩
        · injection hS' with hS'
          subst hS'
          exact ⟨hsk.l0, hsk.l1, hsk.a1, hp⟩
        · exact HW.out.2.set_ 2 (.int .i64 p)
      · exact Chg.trans (Chg.of_below hb _) (Chg.of_grown hgr) (fun i hi e => by
          injection e with e
          subst e
          exact ⟨q3.1, .inl q3⟩)
theorem take_flat (bl : List (List Int)) {k : Nat} {b : List Int} (h : bl[k]? = some b) : (bl.take (k + 1)).flatten = (bl.take k).flatten ++ b := by
  rw [List.take_add_one, h, List.flatten_append]
  simp
theorem take_flat_le (bl : List (List Int)) (k : Nat) : (bl.take k).flatten.length ≤ bl.flatten.length := by
  conv => rhs; rw [← List.take_append_drop k bl]
  rw [List.flatten_append, List.length_append]
  omega
theorem meas_lt' {n k : Nat} (h : k < n) : n - ((k : Int) + 1).toNat < n - ((k : Int)).toNat := by omega
set_option maxHeartbeats 2000000 in
theorem concat_rows {w : World} {R : Option Addr} {n rc base : Nat} {vs : List Value} {bl : List (List Int)} (hR : Own w base 22 1 R n rc vs) (hB : RowsB w base vs bl) (hn : bl.length = n) (ht : bl.flatten.length ≤ 100000) (h10 : n ≤ 100000) :
    Calls Try.prog 42 #[.slice R n rc] w (RetB w bl.flatten) := by
  have H := Lib.hid (And.intro hR (And.intro hB (And.intro hn ht)))
  clear hR hB hn ht
  go_enter Try.func42, Try.ntmps42
  go_wp2_with fail
  go_loopw [3, 11] (fun sz iv wr => ∃ (k S : Nat), k ≤ n ∧ S = (bl.take k).flatten.length ∧ iv = .int .i64 k ∧ sz = .int .i64 S ∧ wr = w) (fun _ iv _ => n - (intOf iv).toNat)
  case atStart => exact ⟨0, 0, Nat.zero_le _, by simp, rfl, rfl, rfl⟩
  case round =>
    obtain ⟨k, S, hk, hS, rfl, rfl, rfl⟩ := hrel
    have hS1 : S ≤ 100000 := by have := take_flat_le bl k; have := H.out.2.2.2; omega
    by_cases hlt : k < n
    · have hltI : (k : Int) < n := by omega
      obtain ⟨b, hb⟩ : ∃ x, bl[k]? = some x := ⟨_, List.getElem?_eq_getElem (by rw [H.out.2.2.1]; exact hlt)⟩
      obtain ⟨A, c, hv, hO⟩ := H.out.2.1.2 k b hb
      obtain ⟨g, o, rfl⟩ := H.out.1.at_ (by omega)
      have ck := H.out.1.cells k _ hv
      have hbl : b.length = (bl.take (k + 1)).flatten.length - S := by rw [take_flat bl hb, List.length_append, ← hS]; omega
      have hS2 : (bl.take (k + 1)).flatten.length = S + b.length := by rw [take_flat bl hb, List.length_append, ← hS]
      obtain ⟨m, hm⟩ : ∃ m, b.length = m := ⟨_, rfl⟩
      have hm2 : S + m ≤ 100000 := by have h1 := take_flat_le bl (k + 1); have h2 := H.out.2.2.2; omega
      have HS := Lib.hid (show S + m = (bl.take (k + 1)).flatten.length by rw [hS2, hm])
      rw [hm] at ck
      have hSm : (S : Int) + m = ((S + m : Nat) : Int) := by omega
      obtain ⟨q, hq⟩ : ∃ q, S + m = q := ⟨_, rfl⟩
      rw [hq] at hSm HS hm2
      have hq0 : (0 : Int) ≤ q := by omega
      have hqd : decide ((q : Int) < 0) = false := decide_eq_false (by omega)
      clear hS hb hv hO hbl hS2 hm
      clear hq
      have hw6 : wrap64 ((k : Int) + 1) = (k : Int) + 1 := by unfold wrap64; omega
      go_wp2_with fail
      go_roundw
      case rel => exact ⟨k + 1, q, hlt, HS.out, by first | rfl | (rw [hw6]; rfl), by first | rfl | exact congrArg (Value.int .i64) hSm, by first | trivial | rfl⟩
      case measure =>
        try rw [hw6]
        simp only [intOf]
        exact meas_lt' hlt
    · obtain rfl : k = n := by omega
      have hS2 : S = bl.flatten.length := by rw [hS, List.take_of_length_le (by rw [H.out.2.2.1]; exact Nat.le_refl _)]
      have HS := Lib.hid hS2
      have GA := Lib.hid (grow_any S wr (by omega))
      clear hS hS2 hlt
      generalize wr = wo at *
      go_wp2_with fail
      refine GA.out.mono ?_
      rintro e w1 ⟨A', c', rfl, hown, hb⟩
      have HG := Lib.hid (And.intro hown hb)
      clear hown hb GA
      go_wp2_with fail
      go_loopw [6, 27] (fun out iv wx => ∃ (j q : Nat) (A2 : Option Addr) (c2 : Nat), j ≤ k ∧ q = (bl.take j).flatten.length ∧ iv = .int .i64 j ∧ out = .slice A2 q c2 ∧ Own wx wo.heap.size 5 1 A2 q c2 (u8s (bl.take j).flatten) ∧ Below wo.heap.size wo wx) (fun _ iv _ => k - (intOf iv).toNat)
      case atStart => exact ⟨0, 0, A', c', Nat.zero_le _, by simp, rfl, rfl, by simpa using HG.out.1, HG.out.2⟩
      case round =>
        obtain ⟨j, q, A2, c2, hj, hq, rfl, rfl, hO2, hb2⟩ := hrel
        have hq1 : q ≤ 100000 := by have := take_flat_le bl j; have := H.out.2.2.2; omega
        by_cases hlt : j < k
        · have hltI : (j : Int) < k := by omega
          obtain ⟨b, hb⟩ : ∃ x, bl[j]? = some x := ⟨_, List.getElem?_eq_getElem (by rw [H.out.2.2.1]; exact hlt)⟩
          obtain ⟨A, c, hv, hO⟩ := H.out.2.1.2 j b hb
          obtain ⟨g, o, rfl⟩ := H.out.1.at_ (by omega)
          have ck := (H.out.1.below hb2).cells j _ hv
          have htf := take_flat bl hb
          have hm2 : q + b.length ≤ 100000 := by
            have h1 := take_flat_le bl (j + 1)
            rw [htf, List.length_append, ← hq] at h1
            have h2 := H.out.2.2.2
            omega
          have HX := Lib.hid (And.intro hO2 (And.intro (hO.below hb2).rd (And.intro htf (And.intro hq hb2))))
          obtain ⟨m, hm⟩ : ∃ m, b.length = m := ⟨_, rfl⟩
          rw [hm] at ck hm2
          have HM := Lib.hid hm
          have hz := hb2.size
          have hmx : q + m ≤ maxLen := by unfold maxLen; omega
          have hmy : (q + m) * 1 ≤ 140737488355328 := by omega
          have hml : (u8s b).length = m * 1 := by simp [hm]
          have HMM := Lib.hid (And.intro hmx (And.intro hmy hml))
          clear hO2 hb hv hO htf hq hb2 hm hmx hmy hml
          have hw6 : wrap64 ((j : Int) + 1) = (j : Int) + 1 := by unfold wrap64; omega
          go_wp2_with (at_builtin; refine wpList_app _ rfl (.tmp 31) (.tmp 32) 22 rfl wo.heap.size 5 (.int .u8 0) 1 1 Try.underlying22 info5 rfl (by decide) A2 q c2 _ rfl HX.out.1 _ A m c _ rfl HMM.out.2.2 HX.out.2.1 (u8s_one _) HMM.out.1 HMM.out.2.1 hz ?_; intro A3 c3 w3 ho3 hg3 hbk3)
          rw [← List.map_append, ← HX.out.2.2.1] at ho3
          have hb3 := bel_app HX.out.2.2.2.2 HX.out.1 (Nat.le_refl _) hg3
          have hql : q + m = (bl.take (j + 1)).flatten.length := by rw [HX.out.2.2.1, List.length_append, ← HX.out.2.2.2.1, HM.out]
          have FIN := Lib.hid (And.intro ho3 (And.intro hb3 hql))
          clear ho3 hb3 hql hg3 hbk3
          go_roundw
          case rel => exact ⟨j + 1, q + m, A3, c3, hlt, FIN.out.2.2, by first | rfl | (rw [hw6]; rfl), rfl, FIN.out.1, FIN.out.2.1⟩
          case measure =>
            try rw [hw6]
            simp only [intOf]
            exact meas_lt' hlt
        · obtain rfl : j = k := by omega
          have hq2 : q = bl.flatten.length := by rw [hq, List.take_of_length_le (by rw [H.out.2.2.1]; exact Nat.le_refl _)]
          rw [List.take_of_length_le (by rw [H.out.2.2.1]; exact Nat.le_refl _)] at hO2
          have FIN := Lib.hid (And.intro hO2 (And.intro hb2 hq2))
          clear hO2 hb2 hq2 hq hlt
          go_wp2_with fail
          go_ret
          obtain ⟨h1, h2, h3⟩ := FIN.out
          subst h3
          exact ⟨A2, c2, rfl, h1, h2⟩
theorem join_ok {w : World} {R : Option Addr} {n rc base : Nat} {vs : List Value} {bl : List (List Int)} (hR : Own w base 22 1 R n rc vs) (hB : RowsB w base vs bl) (hn : bl.length = n) {m : Nat} (ht : bl.flatten.length = m) (hm : m ≤ 100000) (h10 : n ≤ 100000) :
    Calls Try.prog 17 #[.slice R n rc, .int .i64 m] w fun e w' => ∃ A c, e = .returned (.tuple #[.slice A m c, .int .i64 0]) ∧ Own w' w.heap.size 5 1 A m c (u8s bl.flatten) ∧ Below w.heap.size w w' := by
  have CR := Lib.hid (concat_rows hR hB hn (by omega) h10)
  have HT := Lib.hid ht
  clear hR hB hn ht
  go_enter Try.func17, Try.ntmps17
  go_wp2_with fail
  refine CR.out.mono ?_
  rintro e w1 ⟨A, c, rfl, hO, hb⟩
  rw [HT.out] at hO
  rw [HT.out]
  have HH := Lib.hid (And.intro hO hb)
  clear hO hb CR
  go_wp2_with fail
  go_ret2
  exact ⟨A, c, rfl, HH.out.1, HH.out.2⟩
theorem join_any {w : World} {m : Int} {v : Value} (hv : v = .slice none 0 0) (hm : m ≠ 0) :
    Calls Try.prog 17 #[v, .int .i64 m] w fun e w' => ∃ A c f, e = .returned (.tuple #[.slice A 0 c, .int .i64 f]) ∧ Below w.heap.size w w' := by
  subst hv
  have CR := Lib.hid (concat_rows (bl := []) (Own.nil w 0 22 1) ⟨rfl, fun i b h => by simp at h⟩ rfl (by simp) (by omega))
  have hm0 : ((0 : Int) != m) = true := by simpa using (Ne.symm hm)
  go_enter Try.func17, Try.ntmps17
  go_wp2_with fail
  refine CR.out.mono ?_
  rintro e w1 ⟨A, c, rfl, hO, hb⟩
  have HH := Lib.hid hb
  simp only [List.flatten_nil, List.length_nil] at hO
  clear hO hb CR
  go_wp2_with fail
  go_ret2
  exact ⟨none, 0, 6, rfl, HH.out⟩
theorem i64_small {k : Nat} (h : k ≤ 1000) : IntKind.i64.wrap (k : Int) = k := IntWalk.i64_in _ (by omega)
theorem w64_small {k : Nat} (h : k ≤ 1000) : wrap64 (k : Int) = k := by unfold wrap64; omega
/-- Another memory was written: the slave stays. -/
theorem TA.apart {w w' : World} {L T N L2 T2 s m l : Nat} {x : St} (h : TA w L T N s m l x) (hn : x.a.out = none) (hs : s < L2) (hl : l < L2) (hT : T ≤ L2) (hc : ChR L2 [] L2 T2 w w') : TA w' L T w'.heap.size s m l x := by
  obtain ⟨h1, h2, p, h3, h4⟩ := h.lk
  refine ⟨h.k, Blk.chR h.sl hc (by simp) (by omega), h.mem.other hc (.inl hT) (by simp) (by simp) (by simp) (by simp) (by simp), ⟨h1, h2, p, h3.chR hc (by simp) (by omega), ?_⟩, h.ts, h.lt, Nat.le_refl _⟩
  rw [hn] at h4 ⊢
  exact h4
/-- Both memories hold the same: the one behind a slave, the other one. -/
structure Two (w wx : World) (L T L2 T2 s m l m2 : Nat) (x : St) : Prop where
  ta : TA wx L T wx.heap.size s m l x
  on : x.on = true
  lk : x.a = ⟨0, 0, none⟩
  mt : MAt wx L2 T2 m2 x.M
  bel : Below w.heap.size w wx
structure Lie (w : World) (L T L2 T2 s l : Nat) : Prop where
  l0 : w.heap.size + 1 = L
  t2 : T ≤ L2
  s2 : s < L2
  l2 : l < L2
  lt : L ≤ T
  lt2 : L2 ≤ T2
theorem Two.below {w wx wy : World} {L T L2 T2 s m l m2 : Nat} {x : St} (h : Two w wx L T L2 T2 s m l m2 x) (hb : Below wx.heap.size wx wy) : Two w wy L T L2 T2 s m l m2 x :=
  ⟨(h.ta.below hb).more hb.size (Nat.le_refl _), h.on, h.lk, h.mt.below hb, h.bel.trans (hb.mono h.bel.size)⟩
set_option maxHeartbeats 8000000 in
theorem slave_law (area pt : Int) (A : Option Addr) (n c : Nat) (ys : List Int) (mn pg : Int) (w : World) (ha : 0 ≤ area ∧ area < 256) (hp : 0 ≤ pt ∧ pt < 256) (hmn : 0 ≤ mn ∧ mn < 256) (hpg : 0 ≤ pg ∧ pg < 256)
    (hx : ys.length = n) (hn : n ≤ c) (hc : c ≤ maxLen) (hr : Rd w w.heap.size A (u8s ys)) (hA : A = none → n = 0 ∧ c = 0) :
    Calls Try.prog 4 #[.int .u8 area, .int .u8 pt, .slice A n c, .int .u8 mn, .int .u8 pg] w fun e w' => e = .returned (.bool true) ∧ Below w.heap.size w w' := by
  unfold maxLen at hc
  obtain ⟨N, hN⟩ : ∃ N, min n 40 = N := ⟨_, rfl⟩
  have hNI : min (n : Int) 40 = (N : Int) := by omega
  have hNn : N ≤ n := by omega
  have hN40 : N ≤ 40 := by omega
  have hNc : (N : Int) ≤ c := by omega
  obtain ⟨y, hys⟩ : ∃ y, ys.take N = y := ⟨_, rfl⟩
  have hyl : y.length = N := by rw [← hys, List.length_take]; omega
  have hry : Rd w w.heap.size A (u8s y) := by rw [← hys]; exact hr.take' N
  obtain ⟨ar, har⟩ : ∃ ar : Nat, area % 3 = (ar : Int) := ⟨(area % 3).toNat, by omega⟩
  have har' : Int.tmod area 3 = (ar : Int) := by rw [Int.tmod_eq_emod_of_nonneg ha.1]; exact har
  have har3 : (ar : Int) < 3 := by omega
  obtain ⟨pm, hpm⟩ : ∃ pm : Nat, pt % 100 = (pm : Int) := ⟨(pt % 100).toNat, by omega⟩
  have hpm' : Int.tmod pt 100 = (pm : Int) := by rw [Int.tmod_eq_emod_of_nonneg hp.1]; exact hpm
  have hpmI : (pm : Int) < 100 := by omega
  have hpmw : IntKind.u32.wrap (pm : Int) = pm := by rw [IntKind.wrap_u32]; omega
  obtain ⟨k0, hk0⟩ : ∃ k0 : Nat, mn % 112 = (k0 : Int) := ⟨(mn % 112).toNat, by omega⟩
  have hk0' : Int.tmod mn 112 = (k0 : Int) := by rw [Int.tmod_eq_emod_of_nonneg hmn.1]; exact hk0
  have hk0I : (k0 : Int) < 112 := by omega
  obtain ⟨pgn, hpgn⟩ : ∃ pgn : Nat, pg % 2 = (pgn : Int) := ⟨(pg % 2).toNat, by omega⟩
  have hpgn' : Int.tmod pg 2 = (pgn : Int) := by rw [Int.tmod_eq_emod_of_nonneg hpg.1]; exact hpgn
  have hpgI : (pgn : Int) < 2 := by omega
  have hpg1 : pgn ≤ 1 := by omega
  have HY := Lib.hid (And.intro hyl (And.intro hry hA))
  clear hr hx hN hys hyl hry hA
  have FR := Lib.hid (fresh_any 0 (by decide) (by decide) w)
  have FR2 := Lib.hid (fun w => fresh_any 0 (by decide) (by decide) w)
  go_enter Try.func4, Try.ntmps4
  go_wp2_with fail
  refine FR.out.mono ?_
  rintro e w1 ⟨m, l, s, T, rfl, hTA, hLT, hb1⟩
  obtain ⟨L, hL⟩ : ∃ L, w.heap.size + 1 = L := ⟨_, rfl⟩
  rw [hL] at hTA hLT
  have H1 := Lib.hid (And.intro hTA (And.intro hLT (And.intro hb1 hL)))
  clear hTA hLT hb1 FR hL
  go_wp2_with fail
  refine (FR2.out w1).mono ?_
  rintro e w2 ⟨m2, l2, s2, T2, rfl, hTA2, hLT2, hb2⟩
  obtain ⟨L2, hL2⟩ : ∃ L2, w1.heap.size + 1 = L2 := ⟨_, rfl⟩
  rw [hL2] at hTA2 hLT2
  have MS := Lib.hid (mset_any (H1.out.1.below hb2).mem (M := M00) (S := ⟨zeros 16, zeros 16, 0, 0⟩) rfl hpg1)
  have HL := Lib.hid (show Lie w L T L2 T2 s l from ⟨H1.out.2.2.2, by have := H1.out.1.tz; omega, by have := H1.out.1.sl.lt; omega, by
    obtain ⟨_, _, p, h3, _⟩ := H1.out.1.lk
    have := h3.lt
    omega, H1.out.2.1, hLT2⟩)
  have H2 := Lib.hid (And.intro (H1.out.1.below hb2) (And.intro hTA2.mem (H1.out.2.2.1.trans (hb2.mono H1.out.2.2.1.size))))
  clear hTA2 hLT2 hb2 FR2 hL2 H1
  go_wp2_with fail
  refine MS.out.mono ?_
  rintro e w3 ⟨rfl, hM3, hC3⟩
  have MS2 := Lib.hid (mset_any (H2.out.2.1.other hC3 (.inr HL.out.t2) (by simp) (by simp) (by simp) (by simp) (by simp)) (S := ⟨zeros 16, zeros 16, 0, 0⟩) rfl hpg1)
  have H3 := Lib.hid (And.intro (H2.out.1.memw hM3 hC3).1 (H2.out.2.2.trans (hC3.below (by have := H2.out.1.tz; have := HL.out.lt; omega) |>.mono (by have := HL.out.l0; omega))))
  have hz3 : L2 ≤ w3.heap.size := Nat.le_trans HL.out.lt2 (Nat.le_trans H2.out.2.1.tz hC3.size)
  clear hM3 hC3 H2 MS
  go_wp2_with fail
  refine MS2.out.mono ?_
  rintro e w4 ⟨rfl, hM4, hC4⟩
  have H4 := Lib.hid (show Two w w4 L T L2 T2 s m l m2 { X00 0 with M := { M00 with seg := some { (⟨zeros 16, zeros 16, 0, 0⟩ : Sg) with x := pgn } } } from
    ⟨H3.out.1.apart rfl HL.out.s2 HL.out.l2 HL.out.t2 hC4, rfl, by show (⟨m13 0, m13 0, none⟩ : LX) = _; rw [show m13 0 = 0 by decide], hM4, H3.out.2.trans (hC4.below hz3 |>.mono (by have := HL.out.l0; have := HL.out.t2; have := HL.out.lt; omega))⟩)
  clear hM4 hC4 H3 MS2
  clear hz3
  go_upto_region 7 with fail
  go_cut [17, 18, 19] (fun a tt yy wx => a = .int .u8 ar ∧ tt = .int .u32 pm ∧ yy = .slice A N c ∧ wx = w4.drew)
  case first =>
    go_region_with (fail)
    all_goals
      go_wp2_with fail
      go_meet
      case rel => exact ⟨rfl, rfl, rfl, rfl⟩
  case rest =>
    obtain ⟨rfl, rfl, rfl, rfl⟩ := hcut
    have H5 := Lib.hid (H4.out.below ((Below.refl w4.heap.size w4).drew))
    generalize w4.drew = w5 at *
    obtain ⟨x5, hx5⟩ : ∃ x5 : St, x5 = { X00 0 with M := { M00 with seg := some { (⟨zeros 16, zeros 16, 0, 0⟩ : Sg) with x := pgn } } } := ⟨_, rfl⟩
    rw [← hx5] at H5
    clear H4 hx5 har' hpm' hpgn' har hpm hpgn hNI
    obtain ⟨many, hmany⟩ : ∃ many : Nat, k0 + 1 = many := ⟨_, rfl⟩
    have hmanyI : (k0 : Int) + 1 = many := by omega
    have hm1 : 1 ≤ many := by omega
    have hm2 : many ≤ 112 := by omega
    have hkw := i64_small (k := k0) (by omega)
    have hkw4 := i64_small (k := many) (by omega)
    have hkw3 := w64_small (k := many) (by omega)
    have hkw1 : IntKind.i64.wrap ((k0 : Int) + 1) = many := by rw [hmanyI]; exact hkw4
    have hkw2 : wrap64 ((k0 : Int) + 1) = many := by rw [hmanyI]; exact hkw3
    go_upto_region 9 with fail
    clear hkw hkw1 hkw2 hkw3 hkw4
    have SWN := Lib.hid (fun (h0 : N = 0) => swrite_no (w := w5) (pt := pm) (area := ar) (by omega) (A := A) (n := N) (c := c) (by omega) (by unfold fitsN; exact decide_eq_false (by omega)))
    have hne : 1 ≤ N → ∃ g o, A = some ⟨g, o, none⟩ := fun h1 => by
      obtain ⟨g, o, h, _⟩ := HY.out.2.1 (by intro e; have h2 := congrArg List.length e; have h3 := HY.out.1; simp only [u8s, List.length_map, List.length_nil] at h2; omega)
      exact ⟨g, o, h⟩
    go_cut [21, 22] (fun pv ev wx => Two w wx L T L2 T2 s m l m2 x5 ∧ ∃ e : Int, ev = .int .i64 e ∧ ((e = 1 ∧ N = 0) ∨ (e = 0 ∧ 1 ≤ N ∧ ∃ (A4 : Option Addr) (c4 : Nat) (cl : List Kb), pv = .slice A4 (1 + cl.length) c4 ∧ Own wx w5.heap.size 35 8 A4 (1 + cl.length) c4 ((cmL 5 [(ar : Int)] (pm : Int)).cs ++ kcells cl) ∧ (∀ k ∈ cl, KbAt wx w5.heap.size 8 k) ∧ cl.map (fun k => (k.1.a0, k.2)) = allD (fun a _ => a) y)))
    case first =>
      by_cases hN0 : N = 0
      · have SW := Lib.hid (SWN.out hN0)
        have HN0 := Lib.hid hN0
        clear SWN hN0
        go_wp2_with fail
        refine SW.out.mono ?_
        rintro e w6 ⟨rfl, rfl⟩
        go_wp2_with fail
        go_meet
        case rel => exact ⟨H5.out, 1, rfl, .inl ⟨rfl, HN0.out⟩⟩
      · obtain ⟨g, o, rfl⟩ := hne (by omega)
        have SW := Lib.hid (swrite_ok (w := w5) (pt := pm) (area := ar) (by omega) (g := g) (o := o) (b := y) (n := N) (c := c) HY.out.1 (by omega) ((HY.out.2.1.below H5.out.bel).more H5.out.bel.size) (by unfold fitsN; exact decide_eq_true (by omega)))
        clear SWN
        go_wp2_with fail
        refine SW.out.mono ?_
        rintro e w6 ⟨A4, c4, cl, rfl, hO4, hK4, hm4, hb4⟩
        have HH := Lib.hid (And.intro hO4 (And.intro hK4 (And.intro hm4 hb4)))
        clear hO4 hK4 hm4 hb4 SW
        go_wp2_with fail
        go_meet
        case rel => exact ⟨H5.out.below HH.out.2.2.2, 0, rfl, .inr ⟨rfl, by omega, A4, c4, cl, rfl, HH.out.1, HH.out.2.1, HH.out.2.2.1⟩⟩
    case rest =>
      obtain ⟨hTw, e, rfl, hE⟩ := hcut
      have hT5 : T ≤ w5.heap.size := H5.out.ta.tz
      clear SWN H5 hne
      go_upto_if 86 with fail
      go_cut [25] (fun fv wx => ∃ x6, Two w wx L T L2 T2 s m l m2 x6)
      case first =>
        rcases hE with ⟨rfl, hN0⟩ | ⟨rfl, hN1, A4, c4, cl, rfl, hO4, hK4, hm4⟩
        · have HTw := Lib.hid hTw
          clear hTw hN0
          go_wp2_with fail
          go_meet
          case rel => exact ⟨x5, HTw.out⟩
        · have PA := Lib.hid (put_all (by rw [HY.out.1]; exact hN1) (by rw [HY.out.1]; exact hN40) hT5 hTw.on (by rw [hTw.lk]; decide) (area := (ar : Int)) (by omega) (pt := pm) (by omega) hO4 hK4 hm4 hTw.ta)
          have HTw := Lib.hid hTw
          clear hTw hO4 hK4 hm4
          go_wp2_with fail
          refine PA.out.mono ?_
          rintro e w6 ⟨v6, f, z, rfl, hTA6, hza, hzo, hC6, hres⟩
          have hbL : Below w.heap.size w w6 := HTw.out.bel.trans ((hC6.below (by have := HL.out.lt; have := HTw.out.ta.tz; omega)).mono (by have := HL.out.l0; omega))
          have hM6 := HTw.out.mt.other hC6 (.inr HL.out.t2) (by decide) (by decide) (by decide) (by decide) (by decide)
          have WR := Lib.hid (write_any hM6 (who := 2) (.inr rfl) (area := (ar : Int)) (by omega) (pt := pm) (n := N) (c := c) (by omega) HY.out.1 (by omega) ((HY.out.2.1.below hbL).more hbL.size) (fun h => by have := HY.out.2.2 h; omega))
          obtain ⟨f2, hf2⟩ : ∃ f2, (writeX x5.M 2 (ar : Int) pm y).2 = f2 := ⟨_, rfl⟩
          have hcode := write_code x5.M 2 (ar : Int) pm y
          rw [hf2] at WR hres hcode
          have HH := Lib.hid (And.intro hTA6 (And.intro hza (And.intro hzo (And.intro hC6 hbL))))
          have hz6 : L2 ≤ w6.heap.size := Nat.le_trans HL.out.lt2 hM6.tz
          clear hTA6 hza hzo hC6 hbL hM6 PA hf2
          rcases hres with ⟨rfl, rfl, hzM⟩ | ⟨hf, hf2⟩
          · have HZ := Lib.hid hzM
            clear hzM hcode
            go_wp2_with fail
            refine WR.out.mono ?_
            rintro e w7 ⟨rfl, hM7, hC7⟩
            have HF := Lib.hid (show Two w w7 L T L2 T2 s m l m2 z from ⟨HH.out.1.apart (by rw [HH.out.2.1, HTw.out.lk]) HL.out.s2 HL.out.l2 HL.out.t2 hC7, HH.out.2.2.1, by rw [HH.out.2.1]; exact HTw.out.lk, by rw [HZ.out]; exact hM7, HH.out.2.2.2.2.trans ((hC7.below hz6).mono (by have := HL.out.l0; have := HL.out.t2; have := HL.out.lt; omega))⟩)
            clear hM7 hC7 WR
            go_wp2_with fail
            go_meet
            case rel => exact ⟨z, HF.out⟩
          · have hf2b : (f2 == 0) = false := by simpa using hf2
            have hf2c : (f2 != 0) = true := by simpa using hf2
            clear hcode
            rcases hf with rfl | rfl
            all_goals
              go_wp2_with fail
              refine WR.out.mono ?_
              rintro e w7 ⟨rfl, hM7, hC7⟩
              have hb7 : Below w.heap.size w w7 := HH.out.2.2.2.2.trans ((hC7.below hz6).mono (by have := HL.out.l0; have := HL.out.t2; have := HL.out.lt; omega))
              have WK := Lib.hid (works_any w7)
              have HB7 := Lib.hid hb7
              clear hM7 hC7 WR hb7
              go_wp2_with fail
              refine WK.out.mono ?_
              rintro e w8 ⟨rfl, hb8⟩
              have HB8 := Lib.hid (HB7.out.trans (hb8.mono HB7.out.size))
              clear hb8 WK
              go_wp2_with fail
              go_ret
              exact ⟨rfl, HB8.out⟩
      case rest =>
        obtain ⟨x6, hTw⟩ := hcut
        have hfit : fitsN (pm : Int) many = true := by unfold fitsN; exact decide_eq_true (by omega)
        have SR := Lib.hid (sread_ok (w := wc) (pt := pm) (area := ar) (by omega) hfit)
        have HTw := Lib.hid hTw
        have hTc : T ≤ wc.heap.size := hTw.ta.tz
        clear hTw hT5 hE hfit
        go_wp2_with fail
        refine SR.out.mono ?_
        rintro e w6 ⟨A6, c6, rfl, hO6, hb6⟩
        have H6 := Lib.hid (And.intro hO6 (And.intro hb6 (HTw.out.below hb6)))
        clear hO6 hb6 SR
        rcases hrd : readX x6.M 2 (ar : Int) pm many with _ | bs
        · have HRD := Lib.hid hrd
          have GN := Lib.hid (get_not H6.out.2.2.ta H6.out.2.2.on (area := ar) (by omega) (pt := pm) (by omega) hm1 hm2 hrd hTc H6.out.1)
          clear hrd
          go_wp2_with fail
          refine GN.out.mono ?_
          rintro e w7 ⟨y7, rfl, hTA7, hC7⟩
          have JA := Lib.hid (join_any (w := w7) (m := (many : Int)) rfl (by omega))
          have hM7 := H6.out.2.2.mt.other hC7 (.inr HL.out.t2) (by decide) (by decide) (by decide) (by decide) (by decide)
          have hb7 : Below w.heap.size w w7 := H6.out.2.2.bel.trans ((hC7.below (by have := HL.out.lt; have := H6.out.2.2.ta.tz; omega)).mono (by have := HL.out.l0; omega))
          have H7 := Lib.hid (And.intro hM7 hb7)
          clear hTA7 hC7 hM7 hb7 GN
          go_wp2_with fail
          refine JA.out.mono ?_
          rintro e w8 ⟨A8, c8, f8, rfl, hb8⟩
          have RN := Lib.hid (read_no (H7.out.1.below hb8) (who := 2) (.inr rfl) (area := ar) (by omega) (pt := pm) (n := many) (by omega) (by omega) HRD.out)
          have H8 := Lib.hid (H7.out.2.trans (hb8.mono H7.out.2.size))
          clear hb8 JA
          go_wp2_with fail
          refine RN.out.mono ?_
          rintro e w9 ⟨rfl, hb9⟩
          have WK := Lib.hid (works_any w9)
          have H9 := Lib.hid (H8.out.trans (hb9.mono H8.out.size))
          clear hb9 RN
          go_wp2_with fail
          refine WK.out.mono ?_
          rintro e wa ⟨rfl, hba⟩
          have HA := Lib.hid (H9.out.trans (hba.mono H9.out.size))
          clear hba WK
          go_wp2_with fail
          go_ret
          exact ⟨rfl, HA.out⟩
        · have HRD := Lib.hid hrd
          have GY := Lib.hid (get_yes H6.out.2.2.ta H6.out.2.2.on (area := ar) (by omega) (pt := pm) (by omega) hm1 hm2 hrd hTc H6.out.1)
          clear hrd
          go_wp2_with fail
          refine GY.out.mono ?_
          rintro e w7 ⟨A7, c7, vs, bl, y7, rfl, hTA7, hC7, hO7, hR7, hbl, hfl⟩
          have JA := Lib.hid (join_ok (w := w7) hO7 hR7 hbl (m := many) (by rw [hfl]; exact read_len HRD.out) (by omega) (by unfold parN; omega))
          rw [hfl] at JA
          have hM7 := H6.out.2.2.mt.other hC7 (.inr HL.out.t2) (by decide) (by decide) (by decide) (by decide) (by decide)
          have hb7 : Below w.heap.size w w7 := H6.out.2.2.bel.trans ((hC7.below (by have := HL.out.lt; have := H6.out.2.2.ta.tz; omega)).mono (by have := HL.out.l0; omega))
          have H7 := Lib.hid (And.intro hM7 hb7)
          clear hTA7 hC7 hM7 hb7 GY hO7 hR7 hbl hfl
          go_wp2_with fail
          refine JA.out.mono ?_
          rintro e w8 ⟨A8, c8, rfl, hO8, hb8⟩
          have RN := Lib.hid (read_yes (H7.out.1.below hb8) (who := 2) (.inr rfl) (area := ar) (pt := pm) (n := many) HRD.out (by omega))
          have H8 := Lib.hid (And.intro (H7.out.2.trans (hb8.mono H7.out.2.size)) hO8)
          clear hb8 JA hO8
          go_wp2_with fail
          refine RN.out.mono ?_
          rintro e w9 ⟨A9, c9, rfl, hl9, hO9, hb9⟩
          have WK := Lib.hid (works_any w9)
          have H9 := Lib.hid (And.intro (H8.out.1.trans (hb9.mono H8.out.1.size)) (And.intro (H8.out.2.below hb9) (And.intro hO9 hl9)))
          clear hb9 RN hO9 hl9
          go_wp2_with fail
          refine WK.out.mono ?_
          rintro e wa ⟨rfl, hba⟩
          have cv1 := (H9.out.2.1.below hba).conv (n := many) (P := Try.prog) (src := 22) (dst := 9) Try.underlying22 Try.underlying5 Try.underlying9 H9.out.2.2.2.symm wa (Below.refl _ _)
          have cv2 := (H9.out.2.2.1.below hba).conv (n := many) (P := Try.prog) (src := 22) (dst := 9) Try.underlying22 Try.underlying5 Try.underlying9 H9.out.2.2.2.symm wa (Below.refl _ _)
          have hcvb : ((bstr bs).toList == (bstr bs).toList) = true := beq_self_eq_true _
          have HA := Lib.hid (H9.out.1.trans (hba.mono H9.out.1.size))
          clear hba WK
          go_wp2_with fail
          go_ret
          exact ⟨rfl, HA.out⟩
end Go.Proofs.Yteecgdbicokgoaa
